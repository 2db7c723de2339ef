/-
  aggregate.New; a state in memory. Conditions: schema and query lie in memory; the lists of the nodes have at most 2^42 values.
-/
import Derived.Test.YtpahoenanfjhpaaGreatAckz
import Derived.Test.YtpahoenanfjhpaaGreatZi
import Derived.Test.YtpahoenanfjhpaaGreatZk
import Derived.Test.YtpahoenanfjhpaaGreatZj
import Derived.Test.YtpahoenanfjhpaaGreatColz
set_option linter.unusedVariables false
set_option linter.unusedSimpArgs false
namespace Go.Proofs.YtpahoenanfjhpaaGreat
open Go.RowKit
theorem own_low {w : World} {base base' : Nat} {e : TypeId} {size : Nat} {v : Value} {n : Nat} {xs : List Value} (h : w.ownsRow base e size v n xs) (hb : base' ≤ base) : w.ownsRow base' e size v n xs := by
  refine ⟨h.1, h.2.imp id ?_⟩
  rintro ⟨g, cap, cur, h1, h2, h3, h4⟩
  exact ⟨g, cap, cur, h1, Nat.le_trans hb h2, h3, h4⟩
theorem own_mvn {S : Nat → Prop} {w w1 : World} {base : Nat} {e : TypeId} {size : Nat} {v : Value} {n : Nat} {xs : List Value} (h : w.ownsRow base e size v n xs) (hm : Mv S w w1) (hs : ∀ k, v.ownBlock = some k → ¬ S k) : w1.ownsRow base e size v n xs := by
  refine ⟨h.1, h.2.imp id ?_⟩
  rintro ⟨g, cap, cur, h1, h2, h3, h4⟩
  exact ⟨g, cap, cur, h1, h2, by rw [hm.block g (Array.getElem?_eq_some_iff.1 h3).1 (hs g (by rw [h1]; rfl))]; exact h3, h4⟩
def agC (a : Ag) : List Value := [.int .i64 a.op, .int .i64 a.col]
theorem own_ags {w : World} {base : Nat} {e : TypeId} {v : Value} {l : List Ag} (hl : l.length ≤ 9223372036854775807) (h : w.ownsRow base e 2 v l.length (l.flatMap agC)) : AgsAt w w.heap.size v l := by
  rcases own_at (f := agC) (fun _ => rfl) h with ⟨rfl, rfl⟩ | ⟨g, c, rfl, hc, _, hg, H⟩
  · exact ⟨hl, .inl ⟨rfl, none, 0, rfl⟩⟩
  · exact ⟨hl, .inr ⟨g, 0, c, rfl, hc, hg, fun j hj => by
      simp only [Nat.zero_add]
      exact ⟨H j hj 0 _ (by omega) rfl, H j hj 1 _ (by omega) rfl⟩⟩⟩
theorem ags_row {w : World} {B : Nat} {v : Value} {l : List Ag} (h : AgsAt w B v l) : SrcRow w v l.length 2 (l.flatMap agC) := by
  refine srcRow_of (by decide) agC (fun _ => rfl) (fun a u hu => by simp [agC] at hu; rcases hu with rfl | rfl <;> rfl) l ?_
  rcases h.2 with ⟨rfl, h2⟩ | ⟨b, o, c, rfl, _, _, hc⟩
  · exact .inl ⟨rfl, h2⟩
  · refine .inr ⟨b, o, c, rfl, fun j hj i u hu => ?_⟩
    obtain ⟨k0, k1⟩ := hc j hj
    rcases i with _ | _ | i
    · simp [agC] at hu; rw [← hu]; exact k0
    · simp [agC] at hu; rw [← hu]; exact k1
    · simp [agC] at hu
theorem cols_row {w : World} {B : Nat} {v : Value} {l : List Col} (h : ColsAt w B v l) : SrcRow w v l.length 4 (l.flatMap colC) := by
  refine srcRow_of (by decide) colC (fun _ => rfl) (fun a u hu => by simp [colC] at hu; rcases hu with rfl | rfl | rfl | rfl <;> rfl) l ?_
  rcases h.2 with ⟨rfl, h2⟩ | ⟨b, o, c, rfl, _, _, hc⟩
  · exact .inl ⟨rfl, h2⟩
  · refine .inr ⟨b, o, c, rfl, fun j hj i u hu => ?_⟩
    obtain ⟨k0, k1, k2, k3⟩ := hc j hj
    rcases i with _ | _ | _ | _ | i
    · simp [colC] at hu; rw [← hu]; exact k0
    · simp [colC] at hu; rw [← hu]; exact k1
    · simp [colC] at hu; rw [← hu]; exact k2
    · simp [colC] at hu; rw [← hu]; exact k3
    · simp [colC] at hu
/-- In world w a state lies in block SB: its schema and its query in elder blocks, its rows in blocks from L on. -/
structure StAt (w : World) (SB L : Nat) (cs : List Col) (key : Int) (ns : List Nod) (pr gr : List Int) (ag : List Ag) (rv : Value) (lvs : List Value) (rows : List (List Val)) : Prop where
  lt : SB < L
  up : L ≤ w.heap.size
  frz : ∀ q, w.frozen? ⟨SB, q, none⟩ = false
  st : ∃ cv nv pv gv av, w.cell? ⟨SB, 0, none⟩ = some cv ∧ w.cell? ⟨SB, 1, none⟩ = some (.int .i64 key) ∧ w.cell? ⟨SB, 2, none⟩ = some nv ∧ w.cell? ⟨SB, 3, none⟩ = some pv ∧ w.cell? ⟨SB, 4, none⟩ = some gv ∧ w.cell? ⟨SB, 5, none⟩ = some av ∧ ColsAt w SB cv cs ∧ NodsAt w SB nv ns ∧ IntsAt w SB pv pr ∧ IntsAt w SB gv gr ∧ AgsAt w SB av ag
  s6 : w.cell? ⟨SB, 6, none⟩ = some rv
  own : w.ownsRow L 42 1 rv lvs.length (lvs.flatMap one1)
  inn : Inn L w rv lvs rows
def NewPost (w : World) (cs : List Col) (key : Int) (ns : List Nod) (pr gr : List Int) (ag : List Ag) (err : Int) (e : Ending) (w' : World) : Prop :=
  if err = 0 then ∃ SB, e = .returned (.tuple #[.pointer (some ⟨SB, 0, none⟩), .int .i64 0]) ∧ w.heap.size ≤ SB ∧ StAt w' SB w'.heap.size cs key ns pr gr ag (.slice none 0 0) [] [] ∧ Below w.heap.size w w'
  else e = .returned (.tuple #[.pointer none, .int .i64 err]) ∧ Below w.heap.size w w'
/-- What New has made of the query's lists. -/
structure NwIni (y W : World) (OB : Nat) (pv gv av : Value) (pr gr : List Int) (ag : List Ag) : Prop where
  below : Below y.heap.size y W
  lo : y.heap.size ≤ OB
  lt : OB < W.heap.size
  frz : ∀ q, W.frozen? ⟨OB, q, none⟩ = false
  c0 : W.cell? ⟨OB, 0, none⟩ = some (.slice none 0 0)
  c1 : W.cell? ⟨OB, 1, none⟩ = some pv
  c2 : W.cell? ⟨OB, 2, none⟩ = some gv
  c3 : W.cell? ⟨OB, 3, none⟩ = some av
  op : W.ownsRow y.heap.size 3 1 pv pr.length (pr.flatMap intC)
  og : W.ownsRow y.heap.size 3 1 gv gr.length (gr.flatMap intC)
  oa : W.ownsRow y.heap.size 39 2 av ag.length (ag.flatMap agC)
  np : pv.ownBlock ≠ some OB
  ng : gv.ownBlock ≠ some OB
  na : av.ownBlock ≠ some OB
theorem mv_st {a w : World} {OB i : Nat} {u : Value} (h : Mv (fun k => k = OB) a w) : Mv (fun k => k = OB) a (w.setCell ⟨OB, i, none⟩ u) := Mv.st (S := fun k => k = OB) (p := ⟨OB, i, none⟩) h (.inl rfl) u
theorem NwIni.of {y W W7 W8 W9 : World} {OB : Nat} {pv gv av : Value} {pr gr : List Int} {ag : List Ag} (below : Below y.heap.size y W) (lo : y.heap.size ≤ OB) (lt : OB < W.heap.size) (frz : ∀ q, W.frozen? ⟨OB, q, none⟩ = false) (c0 : W.cell? ⟨OB, 0, none⟩ = some (.slice none 0 0)) (c1 : W.cell? ⟨OB, 1, none⟩ = some pv) (c2 : W.cell? ⟨OB, 2, none⟩ = some gv) (c3 : W.cell? ⟨OB, 3, none⟩ = some av)
    (op : W7.ownsRow y.heap.size 3 1 pv pr.length (pr.flatMap intC)) (m7 : Mv (fun k => k = OB) W7 W) (og : W8.ownsRow y.heap.size 3 1 gv gr.length (gr.flatMap intC)) (m8 : Mv (fun k => k = OB) W8 W) (oa : W9.ownsRow y.heap.size 39 2 av ag.length (ag.flatMap agC)) (m9 : Mv (fun k => k = OB) W9 W)
    (np : ∀ k, pv.ownBlock = some k → k ≠ OB) (ng : ∀ k, gv.ownBlock = some k → k ≠ OB) (na : ∀ k, av.ownBlock = some k → k ≠ OB) : NwIni y W OB pv gv av pr gr ag :=
  ⟨below, lo, lt, frz, c0, c1, c2, c3, own_mvn op m7 np, own_mvn og m8 ng, own_mvn oa m9 na, fun e => np _ e rfl, fun e => ng _ e rfl, fun e => na _ e rfl⟩
/-- .. and of its nodes. -/
structure NwMem (W : World) (OB : Nat) (pv gv av : Value) (wr : World) (v : Value) (dl : List (Nod × Value)) : Prop where
  mv : Mv (fun k => k = OB) W wr
  frz : ∀ q, wr.frozen? ⟨OB, q, none⟩ = false
  c0 : wr.cell? ⟨OB, 0, none⟩ = some v
  c1 : wr.cell? ⟨OB, 1, none⟩ = some pv
  c2 : wr.cell? ⟨OB, 2, none⟩ = some gv
  c3 : wr.cell? ⟨OB, 3, none⟩ = some av
  own : wr.ownsRow W.heap.size 44 8 v dl.length (dl.flatMap nodC)
  inn : Inn W.heap.size wr v (dl.map Prod.snd) (dl.map fun p => p.1.ls)
theorem NwMem.on {W : World} {OB : Nat} {pv gv av : Value} {wr wx : World} {v : Value} {dl : List (Nod × Value)} (h : NwMem W OB pv gv av wr v dl) (lt : OB < W.heap.size) (hb : Below wr.heap.size wr wx) : NwMem W OB pv gv av wx v dl := by
  have h' : OB < wr.heap.size := Nat.lt_of_lt_of_le lt h.mv.size
  have hm := Mv.of_below (S := fun _ => False) hb
  exact ⟨h.mv.on hb, fun q => (hm.frozen q h' id).trans (h.frz q), (hb.cell (p := ⟨OB, 0, none⟩) h').trans h.c0, (hb.cell (p := ⟨OB, 1, none⟩) h').trans h.c1, (hb.cell (p := ⟨OB, 2, none⟩) h').trans h.c2, (hb.cell (p := ⟨OB, 3, none⟩) h').trans h.c3, own_to h.own hb, h.inn.on hb⟩
theorem NwMem.step {W : World} {OB : Nat} {pv gv av : Value} {wr w1 : World} {v v1 lv : Value} {dl : List (Nod × Value)} {d : Nod} (h : NwMem W OB pv gv av wr v dl) (lt : OB < W.heap.size) (hv : ValsAt wr wr.heap.size lv d.ls) (hl : ∀ k, lv.ownBlock = some k → W.heap.size ≤ k ∧ k < wr.heap.size ∧ v.ownBlock ≠ some k)
    (hg : wr.grownBy w1 v.ownBlock) (ha : v.ownBlock = v1.ownBlock ∨ v1.ownBlock = some wr.heap.size) (hown : w1.ownsRow W.heap.size 44 8 v1 (dl.length + 1) (dl.flatMap nodC ++ nodC (d, lv))) : NwMem W OB pv gv av (w1.setCell ⟨OB, 0, none⟩ v1) v1 (dl ++ [(d, lv)]) := by
  have h' : OB < wr.heap.size := Nat.lt_of_lt_of_le lt h.mv.size
  have hrow : ∀ k, v.ownBlock = some k → W.heap.size ≤ k := fun k hk => (h.own.lt k hk).1
  have hblk : w1.heap[OB]? = wr.heap[OB]? := hg.block OB h' (fun e => by have := hrow OB e.symm; omega)
  have hne : ∀ k, v1.ownBlock = some k → k ≠ OB := fun k hk => by have := (hown.lt k hk).1; omega
  have IN := Inn.step h.inn hv hl hg ha
  have c1' : w1.cell? ⟨OB, 1, none⟩ = _ := (World.cell?_of_block (w := wr) hblk).trans h.c1
  have c2' : w1.cell? ⟨OB, 2, none⟩ = _ := (World.cell?_of_block (w := wr) hblk).trans h.c2
  have c3' : w1.cell? ⟨OB, 3, none⟩ = _ := (World.cell?_of_block (w := wr) hblk).trans h.c3
  have c0' : w1.cell? ⟨OB, 0, none⟩ = _ := (World.cell?_of_block (w := wr) hblk).trans h.c0
  refine ⟨(h.mv.gr hg hrow).st (.inl rfl) _, fun q => ?_, ?_, ?_, ?_, ?_, ?_, ?_⟩
  · have : w1.frozen? ⟨OB, q, none⟩ = false := (World.frozen?_of_block (w := wr) hblk).trans (h.frz q)
    simpa [go_sem] using this
  · simp [go_sem, c0']
  · simp [go_sem, c1']
  · simp [go_sem, c2']
  · simp [go_sem, c3']
  · rw [List.length_append, List.flatMap_append, List.flatMap_cons, List.flatMap_nil, List.append_nil]
    exact own_st hown hne _
  · rw [List.map_append, List.map_append]
    exact Inn.mv (sb := OB) IN (show Mv (fun k => k = OB) w1 _ from Mv.st (S := fun k => k = OB) (p := ⟨OB, 0, none⟩) (Mv.refl _ _) (.inl rfl) _) lt
set_option maxRecDepth 8000 in
set_option maxHeartbeats 2000000 in
theorem anew_any (cv : Value) (cs : List Col) (key : Int) (nv : Value) (ns : List Nod) (pv : Value) (pr : List Int) (gv : Value) (gr : List Int) (av : Value) (ag : List Ag) (w : World) (hc : ColsAt w w.heap.size cv cs) (hn : NodsAt w w.heap.size nv ns) (hp : IntsAt w w.heap.size pv pr) (hg : IntsAt w w.heap.size gv gr) (ha : AgsAt w w.heap.size av ag) (hls : ∀ d ∈ ns, d.ls.length ≤ 4398046511104) :
    Calls Tryz.prog 13 #[.agg #[cv, .int .i64 key], .agg #[nv, pv, gv, av]] w (NewPost w cs key ns pr gr ag (queryE cs key ns pr gr ag)) := by
  obtain ⟨i0, hi, hz0, hz1, hz2⟩ := info_parts infoNod
  obtain ⟨ca, cc, rfl⟩ := cols_end hc
  obtain ⟨na, nc, rfl⟩ := nods_end hn
  obtain ⟨pa, pc, rfl⟩ := ints_end hp
  obtain ⟨ga, gc, rfl⟩ := ints_end hg
  obtain ⟨aa, ac, rfl⟩ := ags_end ha
  have CK := Lib.hid (fun (W : World) (hb : Below w.heap.size w W) => acheck_any (.slice ca cs.length cc) cs key (.slice na ns.length nc) ns (.slice pa pr.length pc) pr (.slice ga gr.length gc) gr (.slice aa ag.length ac) ag W (hc.mono hb hb.size) (hn.mono hb hb.size) (ints_on hp hb hb.size) (ints_on hg hb hb.size) (ha.mono hb hb.size))
  have QP := Lib.hid (fun h0 : queryE cs key ns pr gr ag = 0 => (by
    unfold queryE at h0
    by_cases q : predF cs key ns = 0
    · rw [if_pos q] at h0
      by_cases q2 : 16 < pr.length ∨ 16 < gr.length ∨ 16 < ag.length
      · rw [if_pos q2] at h0; exact absurd h0 (by decide)
      · have q3 := q
        unfold predF at q3
        by_cases q4 : schemaF cs key = 0
        · rw [if_pos q4] at q3
          by_cases q5 : 64 < ns.length
          · rw [if_pos q5] at q3; exact absurd q3 (by decide)
          · exact ⟨by omega, by omega, by omega, by omega, (schema_parts q4).2.2.1⟩
        · rw [if_neg q4] at q3; exact absurd q3 q4
    · rw [if_neg q] at h0; exact absurd h0 q : pr.length ≤ 16 ∧ gr.length ≤ 16 ∧ ag.length ≤ 16 ∧ ns.length ≤ 64 ∧ cs.length ≤ 12))
  obtain ⟨np, hnp⟩ : ∃ n, pr.length = n := ⟨_, rfl⟩
  obtain ⟨ng, hng⟩ : ∃ n, gr.length = n := ⟨_, rfl⟩
  obtain ⟨nA, hnA⟩ : ∃ n, ag.length = n := ⟨_, rfl⟩
  obtain ⟨nn, hnn⟩ : ∃ n, ns.length = n := ⟨_, rfl⟩
  obtain ⟨nk, hnk⟩ : ∃ n, cs.length = n := ⟨_, rfl⟩
  rw [hnp] at hp
  rw [hng] at hg
  rw [hnA] at ha
  rw [hnn] at hn
  rw [hnk] at hc
  rw [hnp, hng, hnA, hnn, hnk] at CK QP ⊢
  have HC := Lib.hid hc
  have HN := Lib.hid hn
  have HP := Lib.hid hp
  have HG := Lib.hid hg
  have HA := Lib.hid ha
  have LP := Lib.hid hnp
  have LG := Lib.hid hng
  have LA := Lib.hid hnA
  have LN := Lib.hid hnn
  have LK := Lib.hid hnk
  have HLS := Lib.hid hls
  obtain ⟨R, hR⟩ : ∃ R, queryE cs key ns pr gr ag = R := ⟨_, rfl⟩
  rw [hR] at CK QP ⊢
  clear hc hn hp hg ha hnp hng hnA hnn hnk hls hR
  by_cases R0 : R = 0
  · subst R0
    obtain ⟨p16, g16, a16, n64, c12⟩ := QP.out rfl
    clear QP
    go_enter Tryz.func13, Tryz.ntmps13
    go_upto_region 4 with (go_at_call 29; refine Calls.mono (CK.out _ (by with_reducible repeat (first | exact Below.refl _ _ | assumption | refine Below.al ?_ _ | refine Below.on ?_ _ | refine Below.st ?_ (by first | assumption | (simp; done) | (simp; omega)) _ | refine Below.drew ?_))) ?_; rintro e w1 ⟨rfl, hb1⟩; obtain ⟨x1, rfl⟩ := Ext.of hb1; have z0 : w.heap.size < x1.it.heap.size := x1.lt (by simp; omega); have z1 : w.heap.size + 1 < x1.it.heap.size := x1.lt (by simp))
    refine captureM ?_
    intro y ey
    have hyw : Below w.heap.size w y := by rw [ey]; with_reducible repeat (first | exact Below.refl _ _ | assumption | refine Below.al ?_ _ | refine Below.on ?_ _ | refine Below.st ?_ (by first | assumption | (simp; done) | (simp; omega)) _ | refine Below.drew ?_)
    have s0 : y.cell? ⟨w.heap.size, 0, none⟩ = some (.slice ca nk cc) := by rw [ey]; simp (maxDischargeDepth := 9) [go_sem, *]
    have s1 : y.cell? ⟨w.heap.size, 1, none⟩ = some (.int .i64 key) := by rw [ey]; simp (maxDischargeDepth := 9) [go_sem, *]
    have y0 : y.cell? ⟨w.heap.size + 1, 0, none⟩ = some (.slice na nn nc) := by rw [ey]; simp (maxDischargeDepth := 9) [go_sem, *]
    have y1 : y.cell? ⟨w.heap.size + 1, 1, none⟩ = some (.slice pa np pc) := by rw [ey]; simp (maxDischargeDepth := 9) [go_sem, *]
    have y2 : y.cell? ⟨w.heap.size + 1, 2, none⟩ = some (.slice ga ng gc) := by rw [ey]; simp (maxDischargeDepth := 9) [go_sem, *]
    have y3 : y.cell? ⟨w.heap.size + 1, 3, none⟩ = some (.slice aa nA ac) := by rw [ey]; simp (maxDischargeDepth := 9) [go_sem, *]
    have hy1 : w.heap.size + 1 < y.heap.size := by rw [ey]; first | exact z1 | simpa using z1
    clear ey z0 z1 hb1 x1
    have SP : Hid (∀ W, Below y.heap.size y W → SrcRow W (.slice pa np pc) np 1 (pr.flatMap intC)) := Lib.hid (fun W hW => by have hb := Below.to hyw hW; have q := ints_row (ints_on HP.out hb hb.size); rwa [LP.out] at q)
    have SG : Hid (∀ W, Below y.heap.size y W → SrcRow W (.slice ga ng gc) ng 1 (gr.flatMap intC)) := Lib.hid (fun W hW => by have hb := Below.to hyw hW; have q := ints_row (ints_on HG.out hb hb.size); rwa [LG.out] at q)
    have SA : Hid (∀ W, Below y.heap.size y W → SrcRow W (.slice aa nA ac) nA 2 (ag.flatMap agC)) := Lib.hid (fun W hW => by have hb := Below.to hyw hW; have q := ags_row (HA.out.mono hb hb.size); rwa [LA.out] at q)
    clear CK
    go_cut [7] from 16 to 25 (fun sx wx => ∃ (OB : Nat) (v7 v8 v9 : Value), sx = .pointer (some ⟨OB, 0, none⟩) ∧ NwIni y wx OB v7 v8 v9 pr gr ag)
    case first =>
      go_region_held3 (fun w' => w'.cell? ⟨w.heap.size + 1, 1, none⟩ = some (.slice pa np pc) ∧ w'.cell? ⟨w.heap.size + 1, 2, none⟩ = some (.slice ga ng gc) ∧ w'.cell? ⟨w.heap.size + 1, 3, none⟩ = some (.slice aa nA ac)) (first | with_reducible exact ⟨by assumption, by assumption, by assumption⟩ | exact ⟨((show Below y.heap.size y _ from (by with_reducible repeat (first | exact Below.refl _ _ | assumption | refine Below.al ?_ _ | refine Below.on ?_ _ | refine Below.st ?_ (by first | assumption | (simp; done) | (simp; omega)) _ | refine Below.drew ?_))).cell (p := ⟨w.heap.size + 1, 1, none⟩) hy1).trans y1, ((show Below y.heap.size y _ from (by with_reducible repeat (first | exact Below.refl _ _ | assumption | refine Below.al ?_ _ | refine Below.on ?_ _ | refine Below.st ?_ (by first | assumption | (simp; done) | (simp; omega)) _ | refine Below.drew ?_))).cell (p := ⟨w.heap.size + 1, 2, none⟩) hy1).trans y2, ((show Below y.heap.size y _ from (by with_reducible repeat (first | exact Below.refl _ _ | assumption | refine Below.al ?_ _ | refine Below.on ?_ _ | refine Below.st ?_ (by first | assumption | (simp; done) | (simp; omega)) _ | refine Below.drew ?_))).cell (p := ⟨w.heap.size + 1, 3, none⟩) hy1).trans y3⟩)
        (first
          | (go_at_call 31; first | (refine' Calls.mono (clone_int _ _ _ _ ?_ ?_) ?_; rotate_left 2; (focus (intro V hV; refine SP.out V (Below.to ?_ hV); with_reducible repeat (first | exact Below.refl _ _ | assumption | refine Below.al ?_ _ | refine Below.on ?_ _ | refine Below.st ?_ (by first | assumption | (simp; done) | (simp; omega)) _ | refine Below.drew ?_))); (focus omega); rintro e w7 ⟨v7, rfl, ho7, hb7⟩; obtain ⟨x7, rfl⟩ := Ext.of hb7; obtain ⟨a7, c7, rfl⟩ := own_form ho7; have B7 : Below y.heap.size y x7.it := (by with_reducible repeat (first | exact Below.refl _ _ | assumption | refine Below.al ?_ _ | refine Below.on ?_ _ | refine Below.st ?_ (by first | assumption | (simp; done) | (simp; omega)) _ | refine Below.drew ?_)); have f7a := (B7.cell (p := ⟨w.heap.size + 1, 1, none⟩) hy1).trans y1; have f7b := (B7.cell (p := ⟨w.heap.size + 1, 2, none⟩) hy1).trans y2; have f7c := (B7.cell (p := ⟨w.heap.size + 1, 3, none⟩) hy1).trans y3; have O7 : Hid (x7.it.ownsRow y.heap.size 3 1 (.slice a7 np c7) np (pr.flatMap intC)) := Lib.hid (own_low ho7 (show Below y.heap.size y _ from (by with_reducible repeat (first | exact Below.refl _ _ | assumption | refine Below.al ?_ _ | refine Below.on ?_ _ | refine Below.st ?_ (by first | assumption | (simp; done) | (simp; omega)) _ | refine Below.drew ?_))).size); have N7 := Lib.hid (fun k => ho7.lt k); have s7 := x7.below.size; (try simp only [World.size_alloc, World.size_drew] at s7); (try (have l7 := Nat.lt_of_succ_le s7)); have b7 := B7.size; have z7 : w.heap.size + 1 < x7.it.heap.size := Nat.lt_of_lt_of_le hy1 b7; clear ho7) | (refine' Calls.mono (clone_int _ _ _ _ ?_ ?_) ?_; rotate_left 2; (focus (intro V hV; refine SG.out V (Below.to ?_ hV); with_reducible repeat (first | exact Below.refl _ _ | assumption | refine Below.al ?_ _ | refine Below.on ?_ _ | refine Below.st ?_ (by first | assumption | (simp; done) | (simp; omega)) _ | refine Below.drew ?_))); (focus omega); rintro e w8 ⟨v8, rfl, ho8, hb8⟩; obtain ⟨x8, rfl⟩ := Ext.of hb8; obtain ⟨a8, c8, rfl⟩ := own_form ho8; have B8 : Below y.heap.size y x8.it := (by with_reducible repeat (first | exact Below.refl _ _ | assumption | refine Below.al ?_ _ | refine Below.on ?_ _ | refine Below.st ?_ (by first | assumption | (simp; done) | (simp; omega)) _ | refine Below.drew ?_)); have f8a := (B8.cell (p := ⟨w.heap.size + 1, 1, none⟩) hy1).trans y1; have f8b := (B8.cell (p := ⟨w.heap.size + 1, 2, none⟩) hy1).trans y2; have f8c := (B8.cell (p := ⟨w.heap.size + 1, 3, none⟩) hy1).trans y3; have O8 : Hid (x8.it.ownsRow y.heap.size 3 1 (.slice a8 ng c8) ng (gr.flatMap intC)) := Lib.hid (own_low ho8 (show Below y.heap.size y _ from (by with_reducible repeat (first | exact Below.refl _ _ | assumption | refine Below.al ?_ _ | refine Below.on ?_ _ | refine Below.st ?_ (by first | assumption | (simp; done) | (simp; omega)) _ | refine Below.drew ?_))).size); have N8 := Lib.hid (fun k => ho8.lt k); have s8 := x8.below.size; (try simp only [World.size_alloc, World.size_drew] at s8); (try (have l8 := Nat.lt_of_succ_le s8)); (try (have l78 := Nat.lt_of_lt_of_le l7 s8)); have b8 := B8.size; have z8 : w.heap.size + 1 < x8.it.heap.size := Nat.lt_of_lt_of_le hy1 b8; clear ho8))
          | (go_at_call 32; refine' Calls.mono (clone_ag _ _ _ _ ?_ ?_) ?_; rotate_left 2; (focus (intro V hV; refine SA.out V (Below.to ?_ hV); with_reducible repeat (first | exact Below.refl _ _ | assumption | refine Below.al ?_ _ | refine Below.on ?_ _ | refine Below.st ?_ (by first | assumption | (simp; done) | (simp; omega)) _ | refine Below.drew ?_))); (focus omega); rintro e w9 ⟨v9, rfl, ho9, hb9⟩; obtain ⟨x9, rfl⟩ := Ext.of hb9; obtain ⟨a9, c9, rfl⟩ := own_form ho9; have B9 : Below y.heap.size y x9.it := (by with_reducible repeat (first | exact Below.refl _ _ | assumption | refine Below.al ?_ _ | refine Below.on ?_ _ | refine Below.st ?_ (by first | assumption | (simp; done) | (simp; omega)) _ | refine Below.drew ?_)); have f9a := (B9.cell (p := ⟨w.heap.size + 1, 1, none⟩) hy1).trans y1; have f9b := (B9.cell (p := ⟨w.heap.size + 1, 2, none⟩) hy1).trans y2; have f9c := (B9.cell (p := ⟨w.heap.size + 1, 3, none⟩) hy1).trans y3; have O9 : Hid (x9.it.ownsRow y.heap.size 39 2 (.slice a9 nA c9) nA (ag.flatMap agC)) := Lib.hid (own_low ho9 (show Below y.heap.size y _ from (by with_reducible repeat (first | exact Below.refl _ _ | assumption | refine Below.al ?_ _ | refine Below.on ?_ _ | refine Below.st ?_ (by first | assumption | (simp; done) | (simp; omega)) _ | refine Below.drew ?_))).size); have N9 := Lib.hid (fun k => ho9.lt k); have s9 := x9.below.size; (try simp only [World.size_alloc, World.size_drew] at s9); (try (have l9 := Nat.lt_of_succ_le s9)); (try (have l89 := Nat.lt_of_lt_of_le l8 s9)); (try (have l789 := Nat.lt_of_lt_of_le l78 s9)); have b9 := B9.size; have z9 : w.heap.size + 1 < x9.it.heap.size := Nat.lt_of_lt_of_le hy1 b9; clear ho9))
      all_goals (go_wp2_with fail; go_meet; refine ⟨_, .slice a7 np c7, .slice a8 ng c8, .slice a9 nA c9, rfl, ?_⟩; refine NwIni.of (by with_reducible repeat (first | exact Below.refl _ _ | assumption | refine Below.al ?_ _ | refine Below.on ?_ _ | refine Below.st ?_ (by first | assumption | (simp; done) | (simp; omega)) _ | refine Below.drew ?_)) ?_ ?_ ?_ ?_ ?_ ?_ ?_ (by rw [LP.out]; exact O7.out) ?_ (by rw [LG.out]; exact O8.out) ?_ (by rw [LA.out]; exact O9.out) ?_ ?_ ?_ ?_; (focus (first | omega | (simp only [World.size_setCell, World.size_alloc, World.size_drew] at *; omega))); (focus (first | omega | (simp only [World.size_setCell, World.size_alloc, World.size_drew] at *; omega))); (focus (intro q; simp (maxDischargeDepth := 9) [go_sem, *]; done)); (focus (simp (maxDischargeDepth := 9) [go_sem, *]; done)); (focus (simp (maxDischargeDepth := 9) [go_sem, *]; done)); (focus (simp (maxDischargeDepth := 9) [go_sem, *]; done)); (focus (simp (maxDischargeDepth := 9) [go_sem, *]; done)); (focus (repeat (first | with_reducible exact Mv.refl _ _ | with_reducible refine Mv.al ?_ _ | with_reducible refine Mv.on ?_ x9.below | with_reducible refine Mv.on ?_ x8.below | with_reducible refine Mv.on ?_ x7.below | with_reducible refine Mv.drew ?_ | with_reducible refine mv_st ?_))); (focus (repeat (first | with_reducible exact Mv.refl _ _ | with_reducible refine Mv.al ?_ _ | with_reducible refine Mv.on ?_ x9.below | with_reducible refine Mv.on ?_ x8.below | with_reducible refine Mv.on ?_ x7.below | with_reducible refine Mv.drew ?_ | with_reducible refine mv_st ?_))); (focus (repeat (first | with_reducible exact Mv.refl _ _ | with_reducible refine Mv.al ?_ _ | with_reducible refine Mv.on ?_ x9.below | with_reducible refine Mv.on ?_ x8.below | with_reducible refine Mv.on ?_ x7.below | with_reducible refine Mv.drew ?_ | with_reducible refine mv_st ?_))); (focus (intro k hk; obtain ⟨q1, q2⟩ := N7.out k hk; clear hk; (first | omega | (simp only [World.size_setCell, World.size_alloc, World.size_drew] at *; omega)))); (focus (intro k hk; obtain ⟨q1, q2⟩ := N8.out k hk; clear hk; (first | omega | (simp only [World.size_setCell, World.size_alloc, World.size_drew] at *; omega)))); (focus (intro k hk; obtain ⟨q1, q2⟩ := N9.out k hk; clear hk; (first | omega | (simp only [World.size_setCell, World.size_alloc, World.size_drew] at *; omega)))))
    case rest =>
    obtain ⟨OB, v7, v8, v9, rfl, hini⟩ := hcut
    obtain ⟨a7, c7, rfl⟩ := own_form hini.op
    obtain ⟨a8, c8, rfl⟩ := own_form hini.og
    obtain ⟨a9, c9, rfl⟩ := own_form hini.oa
    rw [LP.out, LG.out, LA.out] at hini
    have HI := Lib.hid hini
    have obl := hini.lt
    have q0 := (hini.below.cell (p := ⟨w.heap.size + 1, 0, none⟩) hy1).trans y0
    have hyc := hini.below.size
    have M0 : Hid (NwMem wc OB (.slice a7 np c7) (.slice a8 ng c8) (.slice a9 nA c9) wc (.slice none 0 0) []) := Lib.hid ⟨Mv.refl _ _, hini.frz, hini.c0, hini.c1, hini.c2, hini.c3, World.ownsRow_nil _ _ _ _, rfl, fun j h => absurd h (by simp)⟩
    clear hini SP SG SA y1 y2 y3
    go_wp2_with fail
    go_loopg [29] nn (fun g st wr => ∃ (k : Nat) (v : Value) (dl : List (Nod × Value)), k + g = nn ∧ st = .int .i64 (k : Int) ∧ dl.map Prod.fst = ns.take k ∧ NwMem wc OB (.slice a7 np c7) (.slice a8 ng c8) (.slice a9 nA c9) wr v dl)
    case atStart => exact ⟨0, _, [], by omega, rfl, rfl, M0.out⟩
    case round =>
      obtain ⟨k, v, dl, hk, rfl, hdl, hM⟩ := hrel
      obtain ⟨va, vc, rfl⟩ := own_form hM.own
      have hlen : dl.length = k := by
        have := congrArg List.length hdl
        rw [List.length_map, List.length_take, LN.out] at this; omega
      have HM := Lib.hid hM
      have hcw := hM.mv.size
      have HD := Lib.hid (And.intro hdl hlen)
      have dl64 : dl.length ≤ 64 := by omega
      have q := hM.frz
      have cc0 := hM.c0
      have cc1 := hM.c1
      have cc2 := hM.c2
      have cc3 := hM.c3
      have obw : OB < wr.heap.size := Nat.lt_of_lt_of_le obl hcw
      have hwy : w.heap.size + 1 < wr.heap.size := by omega
      have hnob : ¬ w.heap.size = OB := by have := HI.out.lo; omega
      have ts0 := (hM.mv.cell (b := w.heap.size) 0 (by omega) hnob).trans ((HI.out.below.cell (p := ⟨w.heap.size, 0, none⟩) (show w.heap.size < y.heap.size by omega)).trans s0)
      have ts1 := (hM.mv.cell (b := w.heap.size) 1 (by omega) hnob).trans ((HI.out.below.cell (p := ⟨w.heap.size, 1, none⟩) (show w.heap.size < y.heap.size by omega)).trans s1)
      have BY : Hid (Below y.heap.size y wr) := Lib.hid (Mv.below hM.mv HI.out.below (fun k hk => by rw [hk]; exact HI.out.lo))
      have BW : Hid (Below w.heap.size w wr) := Lib.hid (Below.to hyw BY.out)
      clear M0 hdl hM hlen
      by_cases hg0 : gk = 0
      · subst hg0
        obtain rfl : k = nn := by omega
        have tk : ¬ (k : Int) < (k : Int) := by omega
        have SC : Hid (∀ W, Below wr.heap.size wr W → SrcRow W (.slice ca nk cc) nk 4 (cs.flatMap colC)) := Lib.hid (fun W hW => by have hb := Below.to BW.out hW; have q := cols_row (HC.out.mono hb hb.size); rwa [LK.out] at q)
        have DN : dl.map Prod.fst = ns := by rw [HD.out.1]; exact List.take_of_length_le (by rw [LN.out]; exact Nat.le_refl _)
        have DNH := Lib.hid DN
        clear DN hk
        go_upto_region 11 with fail
        go_region_held3 (fun w' => w'.cell? ⟨w.heap.size, 0, none⟩ = some (.slice ca nk cc) ∧ w'.cell? ⟨w.heap.size, 1, none⟩ = some (.int .i64 key) ∧ w'.cell? ⟨OB, 0, none⟩ = some (.slice va dl.length vc) ∧ w'.cell? ⟨OB, 1, none⟩ = some (.slice a7 np c7) ∧ w'.cell? ⟨OB, 2, none⟩ = some (.slice a8 ng c8) ∧ w'.cell? ⟨OB, 3, none⟩ = some (.slice a9 nA c9))
          (first | with_reducible exact ⟨by assumption, by assumption, by assumption, by assumption, by assumption, by assumption⟩ | exact ⟨((show Below wr.heap.size wr _ from (by with_reducible repeat (first | exact Below.refl _ _ | assumption | refine Below.al ?_ _ | refine Below.on ?_ _ | refine Below.st ?_ (by first | assumption | (simp; done) | (simp; omega)) _ | refine Below.drew ?_))).cell (p := ⟨w.heap.size, 0, none⟩) (Nat.lt_of_succ_lt hwy)).trans ts0, ((show Below wr.heap.size wr _ from (by with_reducible repeat (first | exact Below.refl _ _ | assumption | refine Below.al ?_ _ | refine Below.on ?_ _ | refine Below.st ?_ (by first | assumption | (simp; done) | (simp; omega)) _ | refine Below.drew ?_))).cell (p := ⟨w.heap.size, 1, none⟩) (Nat.lt_of_succ_lt hwy)).trans ts1, ((show Below wr.heap.size wr _ from (by with_reducible repeat (first | exact Below.refl _ _ | assumption | refine Below.al ?_ _ | refine Below.on ?_ _ | refine Below.st ?_ (by first | assumption | (simp; done) | (simp; omega)) _ | refine Below.drew ?_))).cell (p := ⟨OB, 0, none⟩) obw).trans cc0, ((show Below wr.heap.size wr _ from (by with_reducible repeat (first | exact Below.refl _ _ | assumption | refine Below.al ?_ _ | refine Below.on ?_ _ | refine Below.st ?_ (by first | assumption | (simp; done) | (simp; omega)) _ | refine Below.drew ?_))).cell (p := ⟨OB, 1, none⟩) obw).trans cc1, ((show Below wr.heap.size wr _ from (by with_reducible repeat (first | exact Below.refl _ _ | assumption | refine Below.al ?_ _ | refine Below.on ?_ _ | refine Below.st ?_ (by first | assumption | (simp; done) | (simp; omega)) _ | refine Below.drew ?_))).cell (p := ⟨OB, 2, none⟩) obw).trans cc2, ((show Below wr.heap.size wr _ from (by with_reducible repeat (first | exact Below.refl _ _ | assumption | refine Below.al ?_ _ | refine Below.on ?_ _ | refine Below.st ?_ (by first | assumption | (simp; done) | (simp; omega)) _ | refine Below.drew ?_))).cell (p := ⟨OB, 3, none⟩) obw).trans cc3⟩)
          (first | (go_at_call 34; refine' Calls.mono (clone_col _ _ _ _ ?_ ?_) ?_; rotate_left 2; (focus (intro V hV; refine SC.out V (Below.to ?_ hV); with_reducible repeat (first | exact Below.refl _ _ | assumption | refine Below.al ?_ _ | refine Below.on ?_ _ | refine Below.st ?_ (by first | assumption | (simp; done) | (simp; omega)) _ | refine Below.drew ?_))); (focus omega); rintro e w5 ⟨v5, rfl, ho5, hb5⟩; obtain ⟨x5, rfl⟩ := Ext.of hb5; obtain ⟨a5, c5, rfl⟩ := own_form ho5; have B5 : Below wr.heap.size wr x5.it := (by with_reducible repeat (first | exact Below.refl _ _ | assumption | refine Below.al ?_ _ | refine Below.on ?_ _ | refine Below.st ?_ (by first | assumption | (simp; done) | (simp; omega)) _ | refine Below.drew ?_)); have O5 := Lib.hid ho5; have g0 := (B5.cell (p := ⟨w.heap.size, 0, none⟩) (Nat.lt_of_succ_lt hwy)).trans ts0; have g1 := (B5.cell (p := ⟨w.heap.size, 1, none⟩) (Nat.lt_of_succ_lt hwy)).trans ts1; have g2 := (B5.cell (p := ⟨OB, 0, none⟩) obw).trans cc0; have g3 := (B5.cell (p := ⟨OB, 1, none⟩) obw).trans cc1; have g4 := (B5.cell (p := ⟨OB, 2, none⟩) obw).trans cc2; have g5 := (B5.cell (p := ⟨OB, 3, none⟩) obw).trans cc3; clear ho5))
        have M5 := HM.out.on obl B5
        have FIN : Hid (∀ o, o = Obj.cells #[.slice a5 nk c5, .int .i64 key, .slice va dl.length vc, .slice a7 np c7, .slice a8 ng c8, .slice a9 nA c9, .slice none 0 0] 78 → NewPost w cs key ns pr gr ag 0 (.returned (.tuple #[.pointer (some ⟨x5.it.heap.size, 0, none⟩), .int .i64 0])) (x5.it.alloc o)) := Lib.hid (fun o ho => by
          have hal : Below x5.it.heap.size x5.it (x5.it.alloc o) := (Below.refl _ _).alloc (Nat.le_refl _) o
          have op' := own_to (own_mvn HI.out.op HM.out.mv (fun k hk e => HI.out.np (by rw [hk, e]))) B5
          have og' := own_to (own_mvn HI.out.og HM.out.mv (fun k hk e => HI.out.ng (by rw [hk, e]))) B5
          have oa' := own_to (own_mvn HI.out.oa HM.out.mv (fun k hk e => HI.out.na (by rw [hk, e]))) B5
          unfold NewPost
          rw [if_pos rfl]
          refine ⟨x5.it.heap.size, rfl, Below.size (Below.to BW.out B5), ⟨by simp, Nat.le_refl _, fun q => by rw [ho]; simp [go_sem], ⟨.slice a5 nk c5, .slice va dl.length vc, .slice a7 np c7, .slice a8 ng c8, .slice a9 nA c9, by rw [ho]; simp [go_sem], by rw [ho]; simp [go_sem], by rw [ho]; simp [go_sem], by rw [ho]; simp [go_sem], by rw [ho]; simp [go_sem], by rw [ho]; simp [go_sem], ?_, ?_, ?_, ?_, ?_⟩, by rw [ho]; simp [go_sem], World.ownsRow_nil _ _ _ _, rfl, fun j h => absurd h (by simp)⟩, Below.to (Below.to BW.out B5) hal⟩
          · exact (own_cols (by rw [LK.out]; omega) (by have := O5.out; rwa [← LK.out] at this)).mono hal (Nat.le_refl _) |> fun h => by rwa [LK.out] at h
          · have := inn_nods (by omega) M5.inn M5.own
            rw [DNH.out] at this
            exact this.mono hal (Nat.le_refl _)
          · exact ints_on (own_ints HP.out.1 (by rw [LP.out]; omega) op') hal (Nat.le_refl _)
          · exact ints_on (own_ints HG.out.1 (by rw [LG.out]; omega) og') hal (Nat.le_refl _)
          · exact (own_ags (by rw [LA.out]; omega) oa').mono hal (Nat.le_refl _))
        clear M5
        go_wp2
        refine bodyPost_ret (v := .tuple #[.pointer (some ⟨x5.it.heap.size, 0, none⟩), .int .i64 0]) ?_ rfl (FIN.out _ rfl)
        simp (maxDischargeDepth := 9) [results, Tryz.results13, go_sem, *]
      · have hkm : k < nn := by omega
        have hkm' : (k : Int) < (nn : Int) := by omega
        have hkn : k < ns.length := by rw [LN.out]; exact hkm
        obtain ⟨nb, no, rfl, _, hnb, lv, n0, n1, n2, n3, n4, n5, n6, n7, hlv⟩ := nods_in HN.out hkn
        have TS : ns.take (k + 1) = ns.take k ++ [ns[k]'hkn] := List.take_succ_eq_append_getElem hkn
        have hl9 := HLS.out _ (List.getElem_mem hkn)
        obtain ⟨d, hd⟩ : ∃ d, ns[k]'hkn = d := ⟨_, rfl⟩
        rw [hd] at n0 n1 n2 n3 n4 n6 n7 hlv TS hl9
        obtain ⟨la, lc, rfl⟩ := vals_end hlv
        obtain ⟨ln, hln⟩ : ∃ n, d.ls.length = n := ⟨_, rfl⟩
        have HLV := Lib.hid hlv
        have HLN := Lib.hid hln
        have HTS := Lib.hid TS
        rw [hln] at n5 hl9
        have SV : Hid (∀ W, Below wr.heap.size wr W → SrcRow W (.slice la ln lc) ln 3 (d.ls.flatMap valC)) := Lib.hid (fun W hW => by have hb := Below.to BW.out hW; have q := vals_row (HLV.out.mono hb hb.size); rwa [HLN.out] at q)
        have hwn := BW.out.size
        have e0 := (BW.out.cell (p := ⟨nb, no + k * 8, none⟩) hnb).trans n0
        have e1 := (BW.out.cell (p := ⟨nb, no + k * 8 + 1, none⟩) hnb).trans n1
        have e2 := (BW.out.cell (p := ⟨nb, no + k * 8 + 2, none⟩) hnb).trans n2
        have e3 := (BW.out.cell (p := ⟨nb, no + k * 8 + 3, none⟩) hnb).trans n3
        have e4 := (BW.out.cell (p := ⟨nb, no + k * 8 + 4, none⟩) hnb).trans n4
        have e5 := (BW.out.cell (p := ⟨nb, no + k * 8 + 5, none⟩) hnb).trans n5
        have e6 := (BW.out.cell (p := ⟨nb, no + k * 8 + 6, none⟩) hnb).trans n6
        have e7 := (BW.out.cell (p := ⟨nb, no + k * 8 + 7, none⟩) hnb).trans n7
        have znb : nb < wr.heap.size := Nat.lt_of_lt_of_le hnb hwn
        have HK := Lib.hid (And.intro hk hg0)
        clear n0 n1 n2 n3 n4 n5 n6 n7 hlv hln hd TS hk hg0
        go_upto_region 9 with (go_at_call 33; refine' Calls.mono (clone_val _ _ _ _ ?_ ?_) ?_; rotate_left 2; (focus (intro V hV; refine SV.out V (Below.to ?_ hV); with_reducible repeat (first | exact Below.refl _ _ | assumption | refine Below.al ?_ _ | refine Below.on ?_ _ | refine Below.st ?_ (by first | assumption | (simp; done) | (simp; omega)) _ | refine Below.drew ?_))); (focus omega); rintro e w6 ⟨v6, rfl, ho6, hb6⟩; obtain ⟨x6, rfl⟩ := Ext.of hb6; obtain ⟨a6, c6, rfl⟩ := own_form ho6; have O6 : Hid (x6.it.ownsRow (wr.heap.size + 1) 41 3 (.slice a6 ln c6) ln (d.ls.flatMap valC)) := Lib.hid (own_low ho6 (by simp)); have z6 : wr.heap.size < x6.it.heap.size := x6.lt (by simp); clear ho6)
        refine captureM ?_
        intro Z eZ
        have Zb : Below wr.heap.size wr Z := by rw [eZ]; with_reducible repeat (first | exact Below.refl _ _ | assumption | refine Below.al ?_ _ | refine Below.on ?_ _ | refine Below.st ?_ (by first | assumption | (simp; done) | (simp; omega)) _ | refine Below.drew ?_)
        have Z0 : Z.cell? ⟨wr.heap.size, 0, none⟩ = some (.int .i64 d.op) := by rw [eZ]; simp (maxDischargeDepth := 9) [go_sem, *]
        have Z1 : Z.cell? ⟨wr.heap.size, 1, none⟩ = some (.int .i64 d.col) := by rw [eZ]; simp (maxDischargeDepth := 9) [go_sem, *]
        have Z2 : Z.cell? ⟨wr.heap.size, 2, none⟩ = some (.bool d.v.null) := by rw [eZ]; simp (maxDischargeDepth := 9) [go_sem, *]
        have Z3 : Z.cell? ⟨wr.heap.size, 3, none⟩ = some (.int .i64 d.v.n) := by rw [eZ]; simp (maxDischargeDepth := 9) [go_sem, *]
        have Z4 : Z.cell? ⟨wr.heap.size, 4, none⟩ = some (.string d.v.s) := by rw [eZ]; simp (maxDischargeDepth := 9) [go_sem, *]
        have Z5 : Z.cell? ⟨wr.heap.size, 5, none⟩ = some (.slice a6 ln c6) := by rw [eZ]; simp (maxDischargeDepth := 9) [go_sem, *]
        have Z6 : Z.cell? ⟨wr.heap.size, 6, none⟩ = some (.int .i64 d.a) := by rw [eZ]; simp (maxDischargeDepth := 9) [go_sem, *]
        have Z7 : Z.cell? ⟨wr.heap.size, 7, none⟩ = some (.int .i64 d.b) := by rw [eZ]; simp (maxDischargeDepth := 9) [go_sem, *]
        have zZ : wr.heap.size < Z.heap.size := by rw [eZ]; simpa using z6
        have O6Z : Hid (Z.ownsRow (wr.heap.size + 1) 41 3 (.slice a6 ln c6) ln (d.ls.flatMap valC)) := Lib.hid (by rw [eZ]; exact own_st O6.out (fun k hk => by have := (O6.out.lt k hk).1; simp; omega) _)
        have VZ : Hid (ValsAt Z Z.heap.size (.slice a6 ln c6) d.ls) := Lib.hid (own_vals (by rw [HLN.out]; omega) (by rw [HLN.out]; exact O6Z.out))
        have HZ := Lib.hid (HM.out.on obl Zb)
        have k0 := HZ.out.c0
        have obZ : OB < Z.heap.size := by omega
        have fzZ := HZ.out.frz
        have HU : Hid (∀ k, Value.ownBlock (.slice va dl.length vc) = some k → k < wr.heap.size) := Lib.hid (fun k hk => (HM.out.own.lt k hk).2)
        clear eZ e0 e1 e2 e3 e4 e5 e6 e7 O6 z6 hb6 x6 cc0 cc1 cc2 cc3 q
        go_wp2_with (at_builtin; go_must (refine wpList_append_lies _ rfl _ _ 25 rfl wc.heap.size 44 i0 _ 8 88 Tryz.underlying25 hi hz0 hz1 hz2 rfl (by decide) (.slice va dl.length vc) dl.length (dl.flatMap nodC) rfl (HZ.out.own.alloc _) ⟨Z.heap.size, 0, none⟩ 1 1 (nodC (d, .slice a6 ln c6)) rfl rfl (World.news_of_block (heap_alloc_new Z _)) (by simp [nodC, Value.oneCell']) (by omega) (by unfold maxLen; omega) (by omega) (by simp; omega) (Z.heap.size + 1) (by simp) ?_); intro gb cap w4 hown hgrow hat hlt4; go_must (have MS := Lib.hid (NwMem.step (d := d) (lv := .slice a6 ln c6) (HZ.out.on obl ((Below.refl _ _).alloc (Nat.le_refl _) _)) obl (VZ.out.mono ((Below.refl _ _).alloc (Nat.le_refl _) _) (by simp)) (fun k hk => ⟨by have := (O6Z.out.lt k hk).1; omega, by have := (O6Z.out.lt k hk).2; simp; omega, fun e => by have := HU.out k e; have := (O6Z.out.lt k hk).1; omega⟩) hgrow (hat.imp (fun q => q.trans rfl) (fun q => by rw [q]; simp [Value.ownBlock])) hown)); have GO : w4.frozen? ⟨OB, 0, none⟩ = false := (World.frozen?_of_block (w := Z) ((hgrow.block OB (by simp; omega) (fun e => by have := (HZ.out.own.lt OB e.symm).1; omega)).trans (Below.heap_alloc _ _ _ obZ))).trans (fzZ 0); have GC : w4.cell? ⟨OB, 0, none⟩ = some (.slice va dl.length vc) := (World.cell?_of_block (w := Z) ((hgrow.block OB (by simp; omega) (fun e => by have := (HZ.out.own.lt OB e.symm).1; omega)).trans (Below.heap_alloc _ _ _ obZ))).trans k0; clear hown hgrow hat hlt4)
        go_roundg (gk - 1)
        case measure => have := HK.out; omega
        case rel => exact ⟨k + 1, _, dl ++ [(d, .slice a6 ln c6)], by have := HK.out; omega, by go_num, by rw [List.map_append, HD.out.1, HTS.out]; rfl, MS.out⟩
  · have t : (R != 0) = true := by simpa using R0
    go_enter Tryz.func13, Tryz.ntmps13
    go_wp2_with (go_at_call 29; refine Calls.mono (CK.out _ (by with_reducible repeat (first | exact Below.refl _ _ | assumption | refine Below.al ?_ _ | refine Below.on ?_ _ | refine Below.st ?_ (by first | assumption | (simp; done) | (simp; omega)) _ | refine Below.drew ?_))) ?_; rintro e w1 ⟨rfl, hb1⟩; obtain ⟨x1, rfl⟩ := Ext.of hb1)
    refine bodyPost_ret (v := .tuple #[.pointer none, .int .i64 R]) ?_ rfl (by unfold NewPost; rw [if_neg R0]; exact ⟨rfl, (by with_reducible repeat (first | exact Below.refl _ _ | assumption | refine Below.al ?_ _ | refine Below.on ?_ _ | refine Below.st ?_ (by first | assumption | (simp; done) | (simp; omega)) _ | refine Below.drew ?_))⟩)
    simp (maxDischargeDepth := 9) [results, Tryz.results13, go_sem, *]
end Go.Proofs.YtpahoenanfjhpaaGreat
