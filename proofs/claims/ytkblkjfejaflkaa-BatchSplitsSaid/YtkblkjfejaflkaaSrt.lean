/-
  SORT: batch.Sort ('sortF'), its own memory. Conditions: schema and records lie in memory as 'ColsAt', 'RecsAt' say; at most 2^42 records; 'StableOk' of their number.
-/
import Derived.Test.YtkblkjfejaflkaaStb
set_option linter.unusedVariables false
set_option linter.unusedSimpArgs false
namespace Go.Proofs.Ytkblkjfejaflkaa
open Go.RowKit Srt
theorem fin_srt {β : Type} {n : Nat} (d : β → β → Int) (hp : Pre d) (rs : List β) (hn : rs.length = n) (f f' : Nat → Fin n) (hf : ∀ k (h : k < n), f k = ⟨k, h⟩) (sw : Sw 0 n f f')
    (ho : Ord (fun i j : Fin n => d (rs[i.val]'(by rw [hn]; exact i.isLt)) (rs[j.val]'(by rw [hn]; exact j.isLt))) (fun i => i.val) f' 0 n) : (toL f' n).map (fun i : Fin n => rs[i.val]'(by rw [hn]; exact i.isLt)) = srt d rs := by
  have hp' : Pre (fun i j : Fin n => d (rs[i.val]'(by rw [hn]; exact i.isLt)) (rs[j.val]'(by rw [hn]; exact j.isLt))) := ⟨fun x y => hp.anti _ _, fun x y z => hp.trans _ _ _⟩
  have hl : (toL f n).Pairwise (fun a b => a.val < b.val) := by
    rw [List.pairwise_iff_getElem]
    intro i j hi hj hij
    rw [toL_get, toL_get, hf i (by simpa [toL_len] using hi), hf j (by simpa [toL_len] using hj)]; exact hij
  have e : toL f' n = srt (fun i j : Fin n => d (rs[i.val]'(by rw [hn]; exact i.isLt)) (rs[j.val]'(by rw [hn]; exact j.isLt))) (toL f n) :=
    pairwise_unique (fun x y => Lt.asymm hp') ho.pairwise (srt_ord hp' _ hl) ((sw.perm (Nat.le_refl _)).trans (srt_perm _ _).symm)
  rw [e]
  refine (srt_map (fun i : Fin n => rs[i.val]'(by rw [hn]; exact i.isLt)) d (toL f n)).trans ?_
  congr 1
  apply List.ext_getElem
  · simp [toL_len, hn]
  intro k h1 h2
  rw [List.getElem_map, toL_get]
  simp only [hf k (by rw [← hn]; exact h2)]
/-- Records in a row of one block, their rows in other blocks. -/
structure SrtMem (B0 : Nat) (w : World) (v : Value) (ps : List (Int × Value)) (rs : List Rc) : Prop where
  row : (ps = [] ∧ ∃ a c, v = .slice a 0 c) ∨ ∃ blk cap, v = .slice (some ⟨blk, 0, none⟩) ps.length cap ∧ ps.length ≤ cap ∧ B0 ≤ blk ∧ blk < w.heap.size ∧ (∀ j (hj : j < ps.length), w.cell? ⟨blk, j * 2, none⟩ = some (.int .i64 (ps[j]'hj).1) ∧ w.cell? ⟨blk, j * 2 + 1, none⟩ = some (ps[j]'hj).2) ∧ ∀ q, w.frozen? ⟨blk, q, none⟩ = false
  inn : InnR B0 w v ps rs
theorem SrtMem.recs {B0 : Nat} {w : World} {v : Value} {ps : List (Int × Value)} {rs : List Rc} (h : SrtMem B0 w v ps rs) (hl : rs.length ≤ 9223372036854775807) : RecsAt w w.heap.size v rs := by
  refine ⟨hl, ?_⟩
  have hlen := h.inn.1
  rcases h.row with ⟨rfl, a, c, rfl⟩ | ⟨blk, cap, rfl, hc, _, hb, hcell, _⟩
  · exact .inl ⟨List.eq_nil_of_length_eq_zero hlen.symm, a, c, rfl⟩
  · refine .inr ⟨blk, 0, cap, by rw [hlen], by omega, hb, fun j hj => ?_⟩
    have hj' : j < ps.length := by omega
    obtain ⟨k0, k1, _⟩ := h.inn.2 j hj' hj
    obtain ⟨q0, q1⟩ := hcell j hj'
    exact ⟨by rw [Nat.zero_add, ← k0]; exact q0, _, by rw [Nat.zero_add]; exact q1, k1⟩
def sortF (cs : List Col) (key : Int) (rs : List Rc) : List Rc := if validF cs key rs = true then srt (recD (tyK cs key) key) rs else []
theorem sortF_len (cs : List Col) (key : Int) (rs : List Rc) : (sortF cs key rs).length ≤ rs.length := by
  unfold sortF; split
  · rw [srt_len]; exact Nat.le_refl _
  · exact Nat.zero_le _
def SortPost (w : World) (rs : List Rc) (e : Ending) (w' : World) : Prop := ∃ v1 ps, e = .returned v1 ∧ SrtMem w.heap.size w' v1 ps rs ∧ Below w.heap.size w w'
theorem valid_rows {cs : List Col} {key : Int} {rs : List Rc} (h : validF cs key rs = true) : cs.length ≤ 12 ∧ ∀ r ∈ rs, r.row.length = cs.length ∧ rowE cs r.row = 0 ∧ 0 ≤ r.seq ∧ r.seq ≤ 1099511627776 := by
  unfold validF at h
  rw [Bool.and_eq_true] at h
  obtain ⟨h1, h2⟩ := h
  refine ⟨?_, fun r hr => ?_⟩
  · have h1 : schemaF cs key = 0 := by simpa using h1
    unfold schemaF at h1
    split at h1
    · omega
    split at h1
    · cases h1
    · omega
  · have h3 : rs.any (badR cs) = false := by simpa using h2
    have h4 := List.any_eq_false.1 h3 r hr
    unfold badR at h4
    simp at h4
    obtain ⟨⟨a, b⟩, c⟩ := h4
    refine ⟨?_, c, a, b⟩
    unfold rowE at c
    split at c
    · assumption
    · cases c
set_option maxRecDepth 8000 in
theorem ins_nil (v : Value) (fv : Value) (w : World) : Calls Try.prog 76 #[v, .int .i64 (0 : Int), .int .i64 (0 : Int), fv] w fun e w' => e = .returned (.tuple #[]) ∧ w = w' := by
  go_enter Try.func76, Try.ntmps76
  go_wp2
  refine wp_loop_rounds 1 ?_
  rw [rounds_succ]
  go_wp2
  go_end0
  exact ⟨rfl, rfl⟩
set_option maxRecDepth 8000 in
theorem stable_nil (v : Value) (fv : Value) (w : World) : Calls Try.prog 66 #[v, .int .i64 (0 : Int), fv] w fun e w' => e = .returned (.tuple #[]) ∧ w = w' := by
  go_enter Try.func66, Try.ntmps66
  go_wp2
  refine wp_loop_rounds 1 ?_
  rw [rounds_succ]
  go_wp2_with (go_at_call 76; refine Calls.mono (ins_nil _ _ _) ?_; rintro e w1 ⟨rfl, rfl⟩)
  refine wp_loop_rounds 1 ?_
  rw [rounds_succ]
  go_wp2
  go_end0
  exact ⟨rfl, rfl⟩
theorem ssf_any {R : World → Prop} (a : Option Addr) (n cap : Nat) (fv : Value) (w : World) (H : Calls Try.prog 66 #[.slice a n cap, .int .i64 (n : Int), fv] w fun e w' => e = .returned (.tuple #[]) ∧ R w') :
    Calls Try.prog 50 #[.slice a n cap, fv] w fun e w' => e = .returned (.tuple #[]) ∧ R w' := by
  have HH := Lib.hid H
  clear H
  go_enter Try.func50, Try.ntmps50
  go_wp2_with (go_at_call 66; refine Calls.mono HH.out ?_; rintro e w1 ⟨rfl, hq⟩; have HQ := Lib.hid hq; clear hq)
  go_end0
  exact ⟨rfl, HQ.out⟩
/-- The sort of what Own has copied. -/
theorem sort_own (cv : Value) (cs : List Col) (K : Nat) (hk : K < cs.length) (sb : Nat) (rs : List Rc) (y w3 : World) (v1 : Value) (ps : List (Int × Value)) (hst : StableOk rs.length) (hM : OwnMem y w3 v1 ps rs) (hc : ColsAt y y.heap.size cv cs)
    (hs : sb < y.heap.size) (h0 : y.cell? ⟨sb, 0, none⟩ = some cv) (h1 : y.cell? ⟨sb, 1, none⟩ = some (.int .i64 (K : Int))) :
    Calls Try.prog 50 #[v1, fnV (.pointer (some ⟨sb, 0, none⟩))] w3 fun e w' => e = .returned (.tuple #[]) ∧ ∃ ps', SrtMem y.heap.size w' v1 ps' (srt (recD (tyK cs K) K) rs) ∧ Below y.heap.size y w' := by
  have hlen := hM.inn.1
  rcases own_at (f := rcC) (k := 2) (fun _ => rfl) hM.own with ⟨rfl, rfl⟩ | ⟨g, cap, rfl, hcap, hg0, hg, H⟩
  · have e0 : rs = [] := List.eq_nil_of_length_eq_zero hlen.symm
    subst e0
    refine ssf_any none 0 0 _ w3 ((stable_nil _ _ _).mono ?_)
    rintro e w' ⟨rfl, rfl⟩
    exact ⟨rfl, [], ⟨.inl ⟨rfl, none, 0, rfl⟩, rfl, fun j hj => absurd hj (by simp)⟩, hM.below⟩
  · have frz : ∀ q, w3.frozen? ⟨g, q, none⟩ = false := fun q => World.ownsRow.frozenAt hM.own q
    by_cases hn0 : ps.length = 0
    · have e0 : rs = [] := List.eq_nil_of_length_eq_zero (by omega)
      subst e0
      have e1 : ps = [] := List.eq_nil_of_length_eq_zero hn0
      subst e1
      refine ssf_any (some ⟨g, 0, none⟩) 0 cap _ w3 ((stable_nil _ _ _).mono ?_)
      rintro e w' ⟨rfl, rfl⟩
      exact ⟨rfl, [], ⟨.inl ⟨rfl, _, cap, rfl⟩, rfl, fun j hj => absurd hj (by simp)⟩, hM.below⟩
    · have hrn : rs.length = ps.length := hlen.symm
      have idx : ∀ i : Fin ps.length, i.val < rs.length := fun i => by rw [hrn]; exact i.isLt
      have CO : CmpOk (fun i : Fin ps.length => (ps[i.val]'i.isLt).1) (fun i => (ps[i.val]'i.isLt).2) (fun i j => recD (tyK cs K) K (rs[i.val]'(idx i)) (rs[j.val]'(idx j))) g w3 (.pointer (some ⟨sb, 0, none⟩)) := by
        intro W hW i j
        have BW : Below y.heap.size y W := hW.below hM.below (fun k hk => by rw [hk]; exact hg0)
        have vv : ∀ i : Fin ps.length, ValsAt W W.heap.size (ps[i.val]'i.isLt).2 (rs[i.val]'(idx i)).row := by
          intro i
          obtain ⟨_, q1, q2⟩ := hM.inn.2 i.val i.isLt (idx i)
          exact (q1.keep fun k hk hq => hW.block k hk (fun e => (q2 k hq).2.2 (by rw [e]; rfl))).up hW.size
        have e : ∀ i : Fin ps.length, (⟨(ps[i.val]'i.isLt).1, (rs[i.val]'(idx i)).row⟩ : Rc) = rs[i.val]'(idx i) := fun i => by rw [(hM.inn.2 i.val i.isLt (idx i)).1]
        have := clo_any sb cv cs K hk (ps[i.val]'i.isLt).1 _ _ (ps[j.val]'j.isLt).1 _ _ W (hc.mono BW BW.size) (vv i) (vv j) (Nat.lt_of_lt_of_le hs BW.size) ((BW.cell (p := ⟨sb, 0, none⟩) hs).trans h0) ((BW.cell (p := ⟨sb, 1, none⟩) hs).trans h1)
        rw [e i, e j] at this
        exact this
      have hpos : 0 < ps.length := by omega
      obtain ⟨f, hf⟩ : ∃ f : Nat → Fin ps.length, ∀ k (h : k < ps.length), f k = ⟨k, h⟩ := ⟨fun k => if h : k < ps.length then ⟨k, h⟩ else ⟨0, hpos⟩, fun k h => dif_pos h⟩
      have RM : RowM (fun i : Fin ps.length => (ps[i.val]'i.isLt).1) (fun i => (ps[i.val]'i.isLt).2) w3 g 0 ps.length f := by
        refine ⟨hg, fun k hk => ?_, fun k hk => ?_, frz⟩
        · have := H k hk 0 _ (by omega) rfl
          rw [hf k hk]; simpa using this
        · have := H k hk 1 _ (by omega) rfl
          rw [hf k hk]; simpa using this
      have hp : Pre (fun i j : Fin ps.length => recD (tyK cs K) K (rs[i.val]'(idx i)) (rs[j.val]'(idx j))) := ⟨fun x y => (recD_pre _ _).anti _ _, fun x y z => (recD_pre _ _).trans _ _ _⟩
      rw [hrn] at hst
      have ST := hst (Fin ps.length) _ _ _ (fun i => i.val) hp (fun i => by obtain ⟨a, c, e⟩ := vals_end (hM.inn.2 i.val i.isLt (idx i)).2.1; exact ⟨a, _, c, e⟩) g 0 cap _ f w3 w3 CO (Mv.refl _ _) RM hcap (fun k hk => by rw [hf k hk])
      refine ssf_any _ _ _ _ w3 (ST.mono ?_)
      rintro e w' ⟨rfl, f', sw, ho, hr, hm⟩
      refine ⟨rfl, (toL f' ps.length).map (fun i : Fin ps.length => ps[i.val]'i.isLt), ⟨.inr ⟨g, cap, ?_, ?_, hg0, hr.lt, ?_, hr.fr⟩, ?_⟩, hm.below hM.below (fun k hk => by rw [hk]; exact hg0)⟩
      · simp [toL_len]
      · simp [toL_len]; exact hcap
      · intro j hj
        have hj' : j < ps.length := by simpa [toL_len] using hj
        rw [List.getElem_map, toL_get]
        have k0 := hr.c0 j hj'
        have k1 := hr.c1 j hj'
        rw [Nat.zero_add] at k0 k1
        exact ⟨k0, k1⟩
      · rw [← fin_srt (recD (tyK cs K) K) (recD_pre _ _) rs hrn f f' hf sw ho]
        refine ⟨by simp, fun j hj hj' => ?_⟩
        rw [List.getElem_map, List.getElem_map, toL_get]
        obtain ⟨q0, q1, q2⟩ := hM.inn.2 (f' j).val (f' j).isLt (idx _)
        exact ⟨q0, (q1.keep fun k hk hq => hm.block k hk (fun e => (q2 k hq).2.2 (by rw [e]; rfl))).up hm.size, fun k hk => ⟨(q2 k hk).1, Nat.lt_of_lt_of_le (q2 k hk).2.1 hm.size, fun e => (q2 k hk).2.2 (by simpa [Value.ownBlock, toL_len] using e)⟩⟩
set_option maxRecDepth 8000 in
set_option maxHeartbeats 1000000 in
theorem bsort_any (cv : Value) (cs : List Col) (key : Int) (v : Value) (rs : List Rc) (w : World) (hc : ColsAt w w.heap.size cv cs) (h : RecsAt w w.heap.size v rs) (hb : rs.length ≤ 4398046511104) (hst : StableOk rs.length) :
    Calls Try.prog 24 #[.agg #[cv, .int .i64 key], v] w (SortPost w (sortF cs key rs)) := by
  obtain ⟨V, hV⟩ : ∃ V, validF cs key rs = V := ⟨_, rfl⟩
  have VC := Lib.hid (fun (W : World) (hb : Below w.heap.size w W) => (by have q := valid_any cv cs key v rs W (hc.mono hb hb.size) (h.mono hb hb.size); rw [hV] at q; exact q : Calls Try.prog 47 #[.agg #[cv, .int .i64 key], v] W fun e w' => e = .returned (.bool V) ∧ Below W.heap.size W w'))
  have HST := Lib.hid hst
  have HC := Lib.hid hc
  have HR := Lib.hid h
  cases V with
  | false =>
    have E : sortF cs key rs = [] := by unfold sortF; rw [if_neg (by rw [hV]; decide)]
    rw [E]
    obtain ⟨ca, cc, rfl⟩ := cols_end hc
    obtain ⟨ra, rc, rfl⟩ := recs_end h
    clear E hV hc h HST HC HR hst
    generalize cs.length = nc at *
    generalize rs.length = m at *
    go_enter Try.func24, Try.ntmps24
    go_wp2_with (go_at_call 47; refine Calls.mono (VC.out _ (by repeat (first | with_reducible exact Below.refl _ _ | with_reducible assumption | with_reducible refine Below.al ?_ _ | with_reducible refine Below.on ?_ _ | with_reducible refine Below.st ?_ (by first | assumption | (simp; done) | (simp; omega)) _ | with_reducible refine Below.drew ?_))) ?_; rintro e w1 ⟨rfl, hb1⟩; obtain ⟨x1, rfl⟩ := Ext.of hb1; have z0 : w.heap.size < x1.it.heap.size := x1.lt (by (first | assumption | (simp; done) | (simp; omega))))
    refine bodyPost_ret (v := .slice none 0 0) ?_ rfl ⟨_, [], rfl, ⟨.inl ⟨rfl, none, 0, rfl⟩, rfl, fun j hj => absurd hj (by simp)⟩, by repeat (first | with_reducible exact Below.refl _ _ | with_reducible assumption | with_reducible refine Below.al ?_ _ | with_reducible refine Below.on ?_ _ | with_reducible refine Below.st ?_ (by first | assumption | (simp; done) | (simp; omega)) _ | with_reducible refine Below.drew ?_)⟩
    simp (maxDischargeDepth := 9) [results, Try.results24, go_sem, *]
  | true =>
    obtain ⟨K, rfl, hk⟩ := validF_key hV
    have VR := valid_rows hV
    have E : sortF cs K rs = srt (recD (tyK cs K) K) rs := by unfold sortF; rw [if_pos hV]
    rw [E]
    have OA := Lib.hid (fun (W : World) (hb' : Below w.heap.size w W) => own_any v rs W (h.mono hb' hb'.size) hb (fun r hr => by have := (VR.2 r hr).1; omega))
    have SO := Lib.hid (fun (y w3 : World) (hy : Below w.heap.size w y) (sb : Nat) (v1 : Value) (ps : List (Int × Value)) (hM : OwnMem y w3 v1 ps rs) (hs : sb < y.heap.size) (h0 : y.cell? ⟨sb, 0, none⟩ = some cv) (h1 : y.cell? ⟨sb, 1, none⟩ = some (.int .i64 (K : Int))) => sort_own cv cs K hk sb rs y w3 v1 ps hst hM (hc.mono hy hy.size) hs h0 h1)
    generalize srt (recD (tyK cs K) K) rs = SR at *
    obtain ⟨ca, cc, rfl⟩ := cols_end hc
    obtain ⟨ra, rc, rfl⟩ := recs_end h
    clear E hV hc h HST HC HR hst VR hk hb
    generalize cs.length = nc at *
    generalize rs.length = m at *
    unfold fnV at SO
    go_enter Try.func24, Try.ntmps24
    go_upto_region 3 with (go_at_call 47; refine Calls.mono (VC.out _ (by repeat (first | with_reducible exact Below.refl _ _ | with_reducible assumption | with_reducible refine Below.al ?_ _ | with_reducible refine Below.on ?_ _ | with_reducible refine Below.st ?_ (by first | assumption | (simp; done) | (simp; omega)) _ | with_reducible refine Below.drew ?_))) ?_; rintro e w1 ⟨rfl, hb1⟩; obtain ⟨x1, rfl⟩ := Ext.of hb1; have z0 : w.heap.size < x1.it.heap.size := x1.lt (by (first | assumption | (simp; done) | (simp; omega))))
    refine captureM ?_
    intro y ey
    have yb : Below w.heap.size w y := by rw [ey]; exact (by repeat (first | with_reducible exact Below.refl _ _ | with_reducible assumption | with_reducible refine Below.al ?_ _ | with_reducible refine Below.on ?_ _ | with_reducible refine Below.st ?_ (by first | assumption | (simp; done) | (simp; omega)) _ | with_reducible refine Below.drew ?_))
    have y0 : y.cell? ⟨w.heap.size, 0, none⟩ = some (.slice ca nc cc) := by rw [ey]; simp (maxDischargeDepth := 9) [go_sem, *]
    have y1 : y.cell? ⟨w.heap.size, 1, none⟩ = some (.int .i64 (K : Int)) := by rw [ey]; simp (maxDischargeDepth := 9) [go_sem, *]
    have yz : w.heap.size < y.heap.size := by rw [ey]; (first | with_reducible assumption | (simp only [World.size_setCell, World.size_alloc, World.size_drew]; first | with_reducible assumption | omega))
    clear ey
    go_upto_region 4 with (go_at_call 38; refine Calls.mono (OA.out _ yb) ?_; rintro e w3 ⟨v3, ps3, rfl, M3⟩; have HM3 := Lib.hid M3; clear M3)
    have SC := Lib.hid (SO.out y w3 yb w.heap.size v3 ps3 HM3.out yz y0 y1)
    go_wp2_with (go_at_call 50; refine Calls.mono SC.out ?_; rintro e w4 ⟨rfl, hq⟩; have HQ := Lib.hid hq; clear hq)
    obtain ⟨ps', q1, q2⟩ := HQ.out
    refine bodyPost_ret (v := v3) ?_ rfl ⟨_, ps', rfl, ⟨?_, q1.inn.1, fun j hj hj' => ?_⟩, Below.to yb q2⟩
    · simp (maxDischargeDepth := 9) [results, Try.results24, go_sem, *]
    · exact q1.row.imp id fun ⟨blk, cap, a1, a2, a3, a4, a5, a6⟩ => ⟨blk, cap, a1, a2, by omega, a4, a5, a6⟩
    · obtain ⟨a1, a2, a3⟩ := q1.inn.2 j hj hj'
      exact ⟨a1, a2, fun k hk => ⟨by have := (a3 k hk).1; omega, (a3 k hk).2⟩⟩
end Go.Proofs.Ytkblkjfejaflkaa
