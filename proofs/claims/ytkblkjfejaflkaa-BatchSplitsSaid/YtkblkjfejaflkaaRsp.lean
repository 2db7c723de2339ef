/-
  PARTS: the reference's Split ('PartsOf'), and lists of parts in memory ('PartsAt'). Conditions: the records lie in memory; at most 2^42 of them.
-/
import Derived.Test.YtkblkjfejaflkaaBwh
set_option linter.unusedVariables false
set_option linter.unusedSimpArgs false
namespace Go.Proofs.Ytkblkjfejaflkaa
open Go.RowKit
/-- In world w the value v is a slice of the parts. -/
def PartsAt (w : World) (B : Nat) (v : Value) (ps : List (List Rc)) : Prop :=
  ps.length ≤ 9223372036854775807 ∧
    ((ps = [] ∧ ∃ a c, v = .slice a 0 c) ∨ ∃ b o c, v = .slice (some ⟨b, o, none⟩) ps.length c ∧ ps.length ≤ c ∧ b < B ∧ ∀ j (h : j < ps.length), ∃ lv, w.cell? ⟨b, o + j, none⟩ = some lv ∧ RecsAt w B lv (ps[j]'h))
theorem parts_end {w : World} {B : Nat} {v : Value} {ps : List (List Rc)} (h : PartsAt w B v ps) : ∃ a c, v = .slice a ps.length c := by
  rcases h.2 with ⟨e, a, c, rfl⟩ | ⟨b, o, c, rfl, _⟩
  · exact ⟨a, c, by rw [e]; rfl⟩
  · exact ⟨_, c, rfl⟩
theorem parts_in {w : World} {B : Nat} {a : Option Addr} {n c : Nat} {ps : List (List Rc)} (h : PartsAt w B (.slice a n c) ps) {i : Nat} (hi : i < ps.length) : ∃ b o, a = some ⟨b, o, none⟩ ∧ ps.length ≤ c ∧ b < B ∧ ∃ lv, w.cell? ⟨b, o + i, none⟩ = some lv ∧ RecsAt w B lv (ps[i]'hi) := by
  rcases h.2 with ⟨e, _⟩ | ⟨b, o, c, hv, hcap, hb, hc⟩
  · subst e; exact absurd hi (by simp)
  · injection hv with h1 h2 h3
    subst h3
    exact ⟨b, o, h1, hcap, hb, hc i hi⟩
theorem PartsAt.mono {w w' : World} {B B' : Nat} {v : Value} {ps : List (List Rc)} (h : PartsAt w B v ps) (hb : Below B w w') (hB : B ≤ B') : PartsAt w' B' v ps := by
  refine ⟨h.1, h.2.imp id ?_⟩
  rintro ⟨b, o, c, hv, hcap, hlt, hc⟩
  exact ⟨b, o, c, hv, hcap, Nat.lt_of_lt_of_le hlt hB, fun j hj => by obtain ⟨lv, k1, k2⟩ := hc j hj; exact ⟨lv, (hb.cell (p := ⟨b, o + j, none⟩) hlt).trans k1, k2.mono hb hB⟩⟩
theorem PMem.parts {B0 : Nat} {W : World} {v : Value} {lvs : List Value} {ps : List (List Rc)} (h : PMem B0 W v lvs ps) (hl : ps.length ≤ 9223372036854775807) (hr : ∀ p ∈ ps, p.length ≤ 9223372036854775807) : PartsAt W W.heap.size v ps := by
  refine ⟨hl, ?_⟩
  rcases h.at with ⟨rfl, _, rfl⟩ | ⟨g, cap, rfl, h1, _, h3, h4⟩
  · exact .inl ⟨rfl, none, 0, rfl⟩
  · refine .inr ⟨g, 0, cap, rfl, h1, h3, fun j hj => ?_⟩
    obtain ⟨a', c', k1, k2⟩ := h4 j hj
    exact ⟨_, by rw [Nat.zero_add]; exact k1, k2.recs (hr _ (List.getElem_mem hj))⟩
theorem PartsOf.len {rs : List Rc} {n : Nat} {ps : List (List Rc)} (h : PartsOf rs n ps) (hn : 1 ≤ n) : ps.length ≤ rs.length := by
  rcases Nat.lt_or_ge rs.length ps.length with q | q
  · have h1 := (h.at.2 rs.length q).2
    have : rs.length * 1 ≤ rs.length * n := Nat.mul_le_mul_left _ hn
    omega
  · exact q
theorem PartsOf.each {rs : List Rc} {n : Nat} {ps : List (List Rc)} (h : PartsOf rs n ps) : ∀ p ∈ ps, p.length ≤ rs.length := by
  intro p hp
  obtain ⟨j, hj, rfl⟩ := List.getElem_of_mem hp
  rw [(h.at.2 j hj).1, partF_len]
  omega
theorem PartsOf.uniq {rs : List Rc} {n : Nat} {ps qs : List (List Rc)} (h : PartsOf rs n ps) (k : PartsOf rs n qs) : ps = qs := by
  obtain ⟨a, rfl, a1, a2⟩ := h
  obtain ⟨b, rfl, b1, b2⟩ := k
  have : a = b := by
    rcases Nat.lt_trichotomy a b with q | q | q
    · have := b2 a q; omega
    · exact q
    · have := a2 b q; omega
  rw [this]
theorem part_recs2 {w : World} {B b off L c n i cc : Nat} {rs : List Rc} (h : RecsAt w B (.slice (some ⟨b, off, none⟩) L c) rs) (hL : rs.length = L) (hi : i < L) (hcc : min n (L - i) ≤ cc) : RecsAt w B (.slice (some ⟨b, off + i * 2, none⟩) (min n (L - i)) cc) (partF rs n i) := by
  subst hL
  have hl : (partF rs n i).length = min n (rs.length - i) := by simp [partF]
  refine ⟨by rw [hl]; have := h.1; omega, ?_⟩
  rcases h.2 with ⟨e, _⟩ | ⟨b', o', c', hv, hc, hb, hr⟩
  · subst e; exact absurd hi (by simp)
  · injection hv with e1 e2 e3
    injection e1 with e1
    injection e1 with e1 e4 e5
    subst e1 e4
    refine .inr ⟨b, off + i * 2, cc, by rw [hl], by rw [hl]; exact hcc, hb, fun j hj => ?_⟩
    have hj' : i + j < rs.length := by rw [hl] at hj; omega
    have := hr (i + j) hj'
    have e : (partF rs n i)[j]'hj = rs[i + j]'hj' := by simp [partF]
    rw [e, show off + i * 2 + j * 2 = off + (i + j) * 2 by omega]
    exact this
theorem run_recs_y {b off n c lo e : Nat} (he : 0 < e) (h : lo + e ≤ c) (W : World) : (Instr.slice 24 (.slice (some ⟨b, off, none⟩) n c) (some (.int .i64 (lo : Int))) (some (.int .i64 ((lo : Int) + (e : Int)))) none).run Try.prog W = .ok (.slice (some ⟨b, off + lo * 2, none⟩) e (c - lo)) W := by
  have ht : Try.prog.underlying 24 = some (.slice (Try.prog.elem 24)) := by kernel_rfl
  have he' : Try.prog.elem 24 = 31 := by kernel_rfl
  obtain ⟨i1, hj, hy0, hy1, hy2⟩ := info_parts infoRec
  rw [run_slice_lh (ht := ht) (h0 := by omega) (h1 := by omega) (h2 := by omega), he']
  have ne : ¬ c = lo := by omega
  have h1 : ((lo : Int) + (e : Int)).toNat = lo + e := by omega
  by_cases q : lo = 0
  · subst q
    simp [sizeOf, typeInfo, hj, hy1, Result.andThen, sliced, Addr.add, ne]
  · have h2 : ¬ lo * 2 = 0 := by omega
    simp [sizeOf, typeInfo, hj, hy1, Result.andThen, sliced, Addr.add, ne, h1, h2]
/-- The parts under way. -/
structure RM (w W : World) (v : Value) (lvs : List Value) (ps : List (List Rc)) : Prop where
  below : Below w.heap.size w W
  own : W.ownsRow w.heap.size 24 1 v lvs.length lvs
  len : lvs.length = ps.length
  inn : ∀ j (h : j < lvs.length) (h' : j < ps.length), ∃ qs, W.ownsRow w.heap.size 31 2 (lvs[j]'h) qs.length (qs.flatMap rcC) ∧ Prs w w.heap.size qs (ps[j]'(h')) ∧ ∀ k, (lvs[j]'h).ownBlock = some k → k < W.heap.size ∧ v.ownBlock ≠ some k
theorem RM.nil (w : World) : RM w w (.slice none 0 0) [] [] := ⟨Below.refl _ _, World.ownsRow_nil _ _ _ _, rfl, fun j h => absurd h (by simp)⟩
theorem own_lt2 {w : World} {base : Nat} {e : TypeId} {size : Nat} {v : Value} {n : Nat} {xs : List Value} (h : w.ownsRow base e size v n xs) : ∀ k, v.ownBlock = some k → k < w.heap.size := by
  intro k hk
  rcases h.2 with ⟨rfl, _⟩ | ⟨b, cap, cur, rfl, _, hb, _⟩
  · simp [Value.ownBlock] at hk
  · obtain rfl : b = k := by simpa [Value.ownBlock] using hk
    exact (Array.getElem?_eq_some_iff.1 hb).1
/-- A part copied (W to W1), its header laid, the list grown. -/
theorem RM.snoc {w W W1 W2 : World} {v v' lv : Value} {lvs : List Value} {ps : List (List Rc)} {qs : List (Int × Value)} {part : List Rc} {tmp : Obj} (h : RM w W v lvs ps) (b1 : Below W.heap.size W W1) (ho1 : W1.ownsRow W.heap.size 31 2 lv qs.length (qs.flatMap rcC)) (hp : Prs w w.heap.size qs part)
    (ho : W2.ownsRow w.heap.size 24 1 v' (lvs.length + 1) (lvs ++ [lv])) (hg : (W1.alloc tmp).grownBy W2 v.ownBlock) (ha : v'.ownBlock = v.ownBlock ∨ v'.ownBlock = some (W1.alloc tmp).heap.size) : RM w W2 v' (lvs ++ [lv]) (ps ++ [part]) := by
  have b2 : Below W.heap.size W (W1.alloc tmp) := b1.alloc b1.size tmp
  have vb := own_lt2 h.own
  have key : ∀ {u : Value} {rs : List (Int × Value)}, (W1.alloc tmp).ownsRow w.heap.size 31 2 u rs.length (rs.flatMap rcC) → (∀ k, u.ownBlock = some k → k < (W1.alloc tmp).heap.size ∧ v.ownBlock ≠ some k) →
      W2.ownsRow w.heap.size 31 2 u rs.length (rs.flatMap rcC) ∧ ∀ k, u.ownBlock = some k → k < W2.heap.size ∧ v'.ownBlock ≠ some k := fun o hk =>
    ⟨own_keep o fun k e => hg.block k (hk k e).1 (fun q => (hk k e).2 q.symm), fun k e => ⟨Nat.lt_of_lt_of_le (hk k e).1 hg.size, by
      rcases ha with q | q
      · rw [q]; exact (hk k e).2
      · rw [q]; intro e'; injection e' with e'; have := (hk k e).1; omega⟩⟩
  refine ⟨Below.gr (Below.to h.below b2) h.own hg, by simpa using ho, by simp [h.len], fun j h1 h2 => ?_⟩
  rcases Nat.lt_or_ge j lvs.length with q | q
  · have q' : j < ps.length := by rw [← h.len]; exact q
    rw [List.getElem_append_left q, List.getElem_append_left q']
    obtain ⟨rs, k1, k2, k3⟩ := h.inn j q q'
    obtain ⟨m1, m2⟩ := key (own_to k1 b2) (fun k e => ⟨Nat.lt_of_lt_of_le (k3 k e).1 b2.size, (k3 k e).2⟩)
    exact ⟨rs, m1, k2, m2⟩
  · obtain rfl : j = lvs.length := by simp at h1; omega
    have e1 : (lvs ++ [lv])[lvs.length]'h1 = lv := by simp
    have e2 : (ps ++ [part])[lvs.length]'h2 = part := by simp [h.len]
    rw [e1, e2]
    have ho1' : (W1.alloc tmp).ownsRow W.heap.size 31 2 lv qs.length (qs.flatMap rcC) := ho1.alloc _
    obtain ⟨m1, m2⟩ := key (own_baseM ho1' h.below.size) (fun k e => ⟨own_lt2 ho1' k e, fun q => by have := vb k q; have := own_base ho1' k e; omega⟩)
    exact ⟨qs, m1, hp, m2⟩
theorem RM.parts {w W : World} {v : Value} {lvs : List Value} {ps : List (List Rc)} (h : RM w W v lvs ps) (hl : ps.length ≤ 9223372036854775807) (hr : ∀ p ∈ ps, p.length ≤ 9223372036854775807) : PartsAt W W.heap.size v ps := by
  refine ⟨hl, ?_⟩
  have ho := h.own
  rw [show lvs = lvs.flatMap (fun v => [v]) by simp] at ho
  have hl : (lvs.flatMap fun v => [v]).length = lvs.length := by simp
  rw [hl] at ho
  rcases own_at (f := fun v : Value => [v]) (k := 1) (fun _ => rfl) ho with ⟨rfl, rfl⟩ | ⟨g, cap, rfl, hcap, _, hg, H⟩
  · exact .inl ⟨List.eq_nil_of_length_eq_zero h.len.symm, none, 0, rfl⟩
  · refine .inr ⟨g, 0, cap, by rw [h.len], by rw [← h.len]; exact hcap, hg, fun j hj => ?_⟩
    have hj' : j < lvs.length := by rw [h.len]; exact hj
    obtain ⟨qs, k1, k2, _⟩ := h.inn j hj' hj
    have hc := H j hj' 0 _ (by omega) rfl
    exact ⟨lvs[j]'hj', by simpa using hc, own_recs (hr _ (List.getElem_mem hj)) (k2.mono h.below h.below.size) k1⟩
def RspPost (w : World) (rs : List Rc) (n : Nat) (e : Ending) (w' : World) : Prop := ∃ v ps, e = .returned v ∧ PartsOf rs n ps ∧ PartsAt w' w'.heap.size v ps ∧ Below w.heap.size w w'
set_option maxRecDepth 8000 in
set_option maxHeartbeats 1000000 in
theorem refSplit_any (v : Value) (rs : List Rc) (n : Int) (w : World) (h : RecsAt w w.heap.size v rs) (hb : rs.length ≤ 4398046511104) (hn : 1 ≤ n) (hn63 : n ≤ 9223372036854775807) :
    Calls Try.prog 33 #[v, .int .i64 n] w (RspPost w rs n.toNat) := by
  obtain ⟨N, rfl⟩ : ∃ N : Nat, n = (N : Int) := ⟨n.toNat, by omega⟩
  rw [Int.toNat_natCast]
  obtain ⟨i0, hi, hz0, hz1, hz2⟩ := info_parts infoRec
  obtain ⟨i1, hj, hy0, hy1, hy2⟩ := info_parts infoRcs
  obtain ⟨a, c, rfl⟩ := recs_end h
  obtain ⟨L, hL⟩ : ∃ L, rs.length = L := ⟨_, rfl⟩
  rw [hL] at hb h ⊢
  have HR := Lib.hid h
  have HL := Lib.hid hL
  have t : ¬ (N : Int) < 1 := by omega
  have N1 : 1 ≤ N := by omega
  have NP := Lib.hid N1
  clear h hL
  go_enter Try.func33, Try.ntmps33
  go_wp2
  go_loopg [5, 6] L (fun g vo vi wr => ∃ (i K : Nat) (lvs : List Value), vi = .int .i64 (i : Int) ∧ i = min (K * N) L ∧ L ≤ i + g ∧ (∀ j, j < K → j * N < L) ∧ RM w wr vo lvs ((starts N K).map (partF rs N)))
  case atStart => exact ⟨0, 0, [], rfl, by omega, by omega, fun j hj => by omega, RM.nil w⟩
  case round =>
    obtain ⟨i, K, lvs, rfl, hiK, hg, hall, hM⟩ := hrel
    have HM := Lib.hid hM
    have HIK := Lib.hid hiK
    have HALL := Lib.hid hall
    have HG := Lib.hid hg
    obtain ⟨va, vc, rfl⟩ := own_sl hM.own
    clear hiK hall hM hg
    by_cases hlt : i < L
    · have tt : (i : Int) < (L : Int) := by omega
      have eK : i = K * N := by have := HIK.out; omega
      have KL : K ≤ i := by rw [eK]; exact Nat.le_mul_of_pos_right _ (by omega)
      have HEK := Lib.hid eK
      obtain ⟨b, off, rfl, hLc, hb9, hc9⟩ := recs_in HR.out (i := 0) (by rw [HL.out]; omega)
      clear hb9 hc9
      rw [HL.out] at hLc
      obtain ⟨q, hq⟩ : ∃ q, L - i = q := ⟨_, rfl⟩
      have hqz : (L : Int) - (i : Int) = (q : Int) := by omega
      have LV : Hid (lvs.length = K) := Lib.hid (by rw [HM.out.len, List.length_map, starts_len])
      have iq : i + q = L := by omega
      have q0 : 0 < q := by omega
      have HQ := Lib.hid hq
      have EX : Hid ((starts N (K + 1)).map (partF rs N) = (starts N K).map (partF rs N) ++ [partF rs N i]) := Lib.hid (by rw [starts_succ, List.map_append, List.map_cons, List.map_nil, ← HEK.out])
      have ALL2 : Hid (∀ j, j < K + 1 → j * N < L) := Lib.hid (fun j hj => by
        rcases Nat.lt_or_ge j K with h1 | h1
        · exact HALL.out j h1
        · obtain rfl : j = K := by omega
          rw [← HEK.out]; exact hlt)
      have LVK : K ≤ 4398046511104 := by omega
      clear hq eK
      by_cases hc : N ≤ q
      · have t1 : (N : Int) ≤ (q : Int) := by omega
        have t2 : ¬ (q : Int) < (N : Int) := by omega
        have e1 : i + N ≤ c := by omega
        have em : min N (L - i) = N := by rw [HQ.out]; omega
        have RQ : RecsAt w w.heap.size (.slice (some ⟨b, off + i * 2, none⟩) N (c - i)) (partF rs N i) := by
          have := part_recs2 (n := N) (i := i) (cc := c - i) HR.out HL.out hlt (by rw [em]; omega)
          rw [em] at this; exact this
        obtain ⟨ts, s1, s2, s3⟩ := recs_row RQ
        have hpl : (partF rs N i).length = N := by rw [partF_len, HL.out, em]
        rw [hpl] at s2
        have SR := Lib.hid (s2.on HM.out.below)
        have TT := Lib.hid s1
        have TL : Hid (ts.length = N) := Lib.hid (by rw [s1.1, hpl])
        have ve : 0 < N ∧ N ≤ 4398046511104 := by omega
        have r2 := fun W => run_recs_y (b := b) (off := off) (n := L) (c := c) (lo := i) (e := N) ve.1 e1 W
        have w1 : (i : Int) + (N : Int) ≤ 4398046511104 := by omega
        clear em RQ s1 s2 s3 hpl
        go_wp2_with (first
          | (at_builtin; refine wpList_append_row (by rfl) _ _ 24 rfl wr.heap.size 31 i0 _ 2 32 Try.underlying24 hi hz0 hz1 hz2 rfl (by decide) (.slice none 0 0) 0 [] rfl (World.ownsRow_nil _ _ _ _) (.slice (some ⟨b, off + i * 2, none⟩) N (c - i)) N (ts.flatMap rcC) rfl SR.out (by unfold maxLen; omega) (by omega) (Nat.le_refl _) ?_; intro v3 w3 hown hg3 ha; rw [Nat.zero_add, List.nil_append] at hown; obtain ⟨a3, c3, rfl⟩ := own_form hown; have OW3 := Lib.hid hown; have B3 : Hid (Below wr.heap.size wr w3) := Lib.hid (Below.gr (Below.refl wr.heap.size wr) (World.ownsRow_nil _ _ _ _ : wr.ownsRow wr.heap.size 31 2 (.slice none 0 0) 0 []) hg3); clear hown hg3 ha)
          | (at_builtin; have zo : (w3.alloc (.cells #[.slice a3 N c3] 24)).ownsRow w.heap.size 24 1 (.slice va lvs.length vc) lvs.length lvs := own_to HM.out.own (B3.out.alloc B3.out.size _); refine wpList_append_row (by rfl) _ _ 22 rfl w.heap.size 24 i1 _ 1 24 Try.underlying22 hj hy0 hy1 hy2 rfl (by decide) (.slice va lvs.length vc) lvs.length lvs rfl zo (.slice (some ⟨w3.heap.size, 0, none⟩) 1 1) 1 [.slice a3 N c3] rfl ⟨rfl, (by simp [Value.oneCell']), .inr ⟨_, _, rfl, World.news_of_block (heap_alloc_new w3 _)⟩⟩ (by have := LV.out; unfold maxLen; omega) (by have := LV.out; omega) (by have := B3.out.size; have := HM.out.below.size; rw [World.size_alloc]; omega) ?_; intro v4 w4 hown hg4 ha; have MS := Lib.hid (HM.out.snoc B3.out (by have := OW3.out; rw [← TL.out] at this; exact this) TT.out (by rw [TL.out]; exact hown) hg4 ha); clear hown hg4 ha zo))
        go_roundg (gk - 1)
        case measure => have := HG.out; omega
        case rel => exact ⟨i + N, K + 1, _, by go_num, by rw [Nat.succ_mul, ← HEK.out]; omega, by have := HG.out; omega, ALL2.out, by rw [EX.out]; exact MS.out⟩
      · have t1 : ¬ (N : Int) ≤ (q : Int) := by omega
        have t2 : (q : Int) < (N : Int) := by omega
        have e1 : i + q ≤ c := by omega
        have em : min N (L - i) = q := by rw [HQ.out]; omega
        have RQ : RecsAt w w.heap.size (.slice (some ⟨b, off + i * 2, none⟩) q (c - i)) (partF rs N i) := by
          have := part_recs2 (n := N) (i := i) (cc := c - i) HR.out HL.out hlt (by rw [em]; omega)
          rw [em] at this; exact this
        obtain ⟨ts, s1, s2, s3⟩ := recs_row RQ
        have hpl : (partF rs N i).length = q := by rw [partF_len, HL.out, em]
        rw [hpl] at s2
        have SR := Lib.hid (s2.on HM.out.below)
        have TT := Lib.hid s1
        have TL : Hid (ts.length = q) := Lib.hid (by rw [s1.1, hpl])
        have ve : 0 < q ∧ q ≤ 4398046511104 := by omega
        have r2 := fun W => run_recs_y (b := b) (off := off) (n := L) (c := c) (lo := i) (e := q) ve.1 e1 W
        have w1 : (i : Int) + (q : Int) ≤ 4398046511104 := by omega
        clear em RQ s1 s2 s3 hpl
        go_wp2_with (first
          | (at_builtin; refine wpList_append_row (by rfl) _ _ 24 rfl wr.heap.size 31 i0 _ 2 32 Try.underlying24 hi hz0 hz1 hz2 rfl (by decide) (.slice none 0 0) 0 [] rfl (World.ownsRow_nil _ _ _ _) (.slice (some ⟨b, off + i * 2, none⟩) q (c - i)) q (ts.flatMap rcC) rfl SR.out (by unfold maxLen; omega) (by omega) (Nat.le_refl _) ?_; intro v3 w3 hown hg3 ha; rw [Nat.zero_add, List.nil_append] at hown; obtain ⟨a3, c3, rfl⟩ := own_form hown; have OW3 := Lib.hid hown; have B3 : Hid (Below wr.heap.size wr w3) := Lib.hid (Below.gr (Below.refl wr.heap.size wr) (World.ownsRow_nil _ _ _ _ : wr.ownsRow wr.heap.size 31 2 (.slice none 0 0) 0 []) hg3); clear hown hg3 ha)
          | (at_builtin; have zo : (w3.alloc (.cells #[.slice a3 q c3] 24)).ownsRow w.heap.size 24 1 (.slice va lvs.length vc) lvs.length lvs := own_to HM.out.own (B3.out.alloc B3.out.size _); refine wpList_append_row (by rfl) _ _ 22 rfl w.heap.size 24 i1 _ 1 24 Try.underlying22 hj hy0 hy1 hy2 rfl (by decide) (.slice va lvs.length vc) lvs.length lvs rfl zo (.slice (some ⟨w3.heap.size, 0, none⟩) 1 1) 1 [.slice a3 q c3] rfl ⟨rfl, (by simp [Value.oneCell']), .inr ⟨_, _, rfl, World.news_of_block (heap_alloc_new w3 _)⟩⟩ (by have := LV.out; unfold maxLen; omega) (by have := LV.out; omega) (by have := B3.out.size; have := HM.out.below.size; rw [World.size_alloc]; omega) ?_; intro v4 w4 hown hg4 ha; have MS := Lib.hid (HM.out.snoc B3.out (by have := OW3.out; rw [← TL.out] at this; exact this) TT.out (by rw [TL.out]; exact hown) hg4 ha); clear hown hg4 ha zo))
        go_roundg (gk - 1)
        case measure => have := HG.out; omega
        case rel => exact ⟨i + q, K + 1, _, by go_num, by rw [Nat.succ_mul, ← HEK.out]; omega, by have := HG.out; omega, ALL2.out, by rw [EX.out]; exact MS.out⟩
    · have tt : ¬ (i : Int) < (L : Int) := by omega
      have FIN : Hid (RspPost w rs N (.returned (.slice va lvs.length vc)) wr) := Lib.hid (by
        have hp : PartsOf rs N ((starts N K).map (partF rs N)) := ⟨K, rfl, by rw [HL.out]; have := HIK.out; omega, by rw [HL.out]; exact HALL.out⟩
        exact ⟨_, _, rfl, hp, HM.out.parts (by have := hp.len NP.out; rw [HL.out] at this; omega) (fun p hpp => by have := hp.each p hpp; rw [HL.out] at this; omega), HM.out.below⟩)
      go_wp2
      refine bodyPost_ret (v := .slice va lvs.length vc) ?_ rfl FIN.out
      simp (maxDischargeDepth := 9) [results, Try.results33, go_sem, *]
end Go.Proofs.Ytkblkjfejaflkaa
