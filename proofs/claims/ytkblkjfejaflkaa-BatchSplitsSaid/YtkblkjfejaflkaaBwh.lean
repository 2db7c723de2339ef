/-
  BATCHSPLITISWHOLE: the walk. Conditions: none.
-/
import Derived.Test.YtkblkjfejaflkaaBex
import Derived.Test.YtkblkjfejaflkaaKrc
import Derived.Test.YtkblkjfejaflkaaLoo
import Derived.Test.YtkblkjfejaflkaaSmr
import Derived.Test.YtkblkjfejaflkaaKsc
set_option linter.unusedVariables false
set_option linter.unusedSimpArgs false
namespace Go.Proofs.Ytkblkjfejaflkaa
open Go.RowKit Go.ChangeShapes Go.WideShapes Go.ChangeAt
theorem PMem.at2 {B0 : Nat} {W : World} {v : Value} {lvs : List Value} {ps : List (List Rc)} (h : PMem B0 W v lvs ps) : ∃ a c, v = .slice a ps.length c ∧
    ∀ j (hj : j < ps.length), ∃ g a' c', a = some ⟨g, 0, none⟩ ∧ ps.length ≤ c ∧ B0 ≤ g ∧ g < W.heap.size ∧ W.cell? ⟨g, j, none⟩ = some (.slice a' (ps[j]'hj).length c') ∧ PartIn B0 W (some g) (.slice a' (ps[j]'hj).length c') (ps[j]'hj) := by
  rcases h.at with ⟨rfl, _, rfl⟩ | ⟨g, cap, rfl, h1, h2, h3, h4⟩
  · exact ⟨none, 0, rfl, fun j hj => absurd hj (by simp)⟩
  · refine ⟨_, cap, rfl, fun j hj => ?_⟩
    obtain ⟨a', c', k1, k2⟩ := h4 j hj
    exact ⟨g, a', c', rfl, h1, h2, h3, k1, k2⟩
theorem PartsOf.at {rs : List Rc} {n : Nat} {ps : List (List Rc)} (h : PartsOf rs n ps) : rs.length ≤ ps.length * n ∧ ∀ j (hj : j < ps.length), ps[j]'hj = partF rs n (j * n) ∧ j * n < rs.length := by
  obtain ⟨k, rfl, h1, h2⟩ := h
  refine ⟨by simpa [starts] using h1, fun j hj => ?_⟩
  have hk : j < k := by simpa [starts] using hj
  exact ⟨by simp [starts], h2 j hk⟩
theorem partF_len (rs : List Rc) (n i : Nat) : (partF rs n i).length = min n (rs.length - i) := by simp [partF]
theorem cell_lt {w : World} {p : Addr} {u : Value} (h : w.cell? p = some u) : p.block < w.heap.size := by
  rcases Nat.lt_or_ge p.block w.heap.size with q | q
  · exact q
  · have : w.heap[p.block]? = none := Array.getElem?_eq_none q
    simp [World.cell?, this] at h
theorem SrcRow.on {w w' : World} {v : Value} {m k : Nat} {l : List Value} (h : SrcRow w v m k l) (hb : Below w.heap.size w w') : SrcRow w' v m k l :=
  ⟨h.1, h.2.1, h.2.2.imp id fun ⟨a, c, e, hc⟩ => ⟨a, c, e, fun j u hj => (hb.cell (p := a.add j) (cell_lt (hc j u hj))).trans (hc j u hj)⟩⟩
set_option maxRecDepth 8000 in
set_option maxHeartbeats 1000000 in
theorem bwh_walk (vx vl : Value) (zx zl : List Int) (kn : Int) (w : World) (h0 : IntsAt w w.heap.size vx zx) (h1 : IntsAt w w.heap.size vl zl) :
    Calls Try.prog 9 #[vx, vl, .int .i64 kn] w fun e w' => e = .returned (.bool true) ∧ Below w.heap.size w w' := by
  have H0 := Lib.hid h0
  have H1 := Lib.hid h1
  clear h0 h1
  obtain ⟨i0, hi, hz0, hz1, hz2⟩ := info_parts infoRec
  obtain ⟨P, hP⟩ : ∃ P, pickI kn 5 = P := ⟨_, rfl⟩
  have hPb := pickI_bd kn (n := 5) (by omega)
  rw [hP] at hPb
  obtain ⟨K, hK⟩ : ∃ K : Nat, 1 + P = (K : Int) := ⟨(1 + P).toNat, by omega⟩
  have K1 : 1 ≤ K := by omega
  have K5 : K ≤ 5 := by omega
  have PK := Lib.hid (fun W => (by have q := pick_any kn 5 (by omega) (by omega) W; rw [hP] at q; exact q : Calls Try.prog 29 #[.int .i64 kn, .int .i64 5] W fun e w' => e = .returned (.int .i64 P) ∧ W = w'))
  clear hP
  go_enter Try.func9, Try.ntmps9
  go_upto_region 2 with (first
    | (go_at_call 13; refine (keepSchema_any _ _ _ H0.out).mono ?_; rintro e w1 ⟨cv, cs, key, rfl, hc1, hs1, hl1, hb1⟩; obtain ⟨ca, cc, rfl⟩ := cols_end hc1; have HC1 := Lib.hid hc1; have SP := Lib.hid (schema_parts hs1); have HB1 := Lib.hid hb1; have I1 := Lib.hid ((H1.out.to fun k hk => hb1.block k hk).mono hb1.size); clear hc1 hs1 hl1 hb1)
    | (go_at_call 14; refine Calls.mono (loose_any _ cs key vl zl 12 _ HC1.out I1.out (by decide) (by decide) SP.out.1 SP.out.2.2.1) ?_; rintro e w2 ⟨v2, rs, rfl, hr2, hl2, ho2, hb2⟩; obtain ⟨ra, rc, rfl⟩ := recs_end hr2; have RL : Hid (∀ r ∈ rs, r.row.length ≤ 4398046511104) := Lib.hid (fun r hr => by have e1 := (ho2 r hr).2.2.1; have e2 := SP.out.2.2.1; omega); have HR2 := Lib.hid hr2; have HL2 := Lib.hid hl2; have BW := Lib.hid (Below.to HB1.out hb2); clear hr2 hl2 ho2 hb2))
  obtain ⟨L, hL⟩ : ∃ L, rs.length = L := ⟨_, rfl⟩
  have SPL := Lib.hid (split_any _ rs (K : Int) _ HR2.out (by have := HL2.out; omega) RL.out (by omega) (by omega))
  rw [hL] at SPL HR2 ⊢
  have HL := Lib.hid hL
  clear hL RL I1 HC1 SP HB1 H0 H1
  go_upto_region 3 with (go_at_call 29; refine Calls.mono (PK.out _) ?_; rintro e w3 ⟨rfl, rfl⟩)
  go_upto_region 4 with (go_at_call 12; refine Calls.mono SPL.out ?_; rintro e y ⟨v3, lvs, ps, rfl, hp, hM, hb3⟩; rw [Int.toNat_natCast] at hp; have HP := Lib.hid hp.at; obtain ⟨pa, pc, rfl, hat⟩ := hM.at2; have HAT := Lib.hid hat; have HB3 := Lib.hid hb3; clear hp hM hat hb3)
  have BY := Lib.hid (Below.to BW.out HB3.out)
  have HRY := Lib.hid (HR2.out.mono HB3.out HB3.out.size)
  have L12 : L ≤ 12 := by have := HL2.out; have := HL.out; omega
  obtain ⟨N, hN⟩ : ∃ N, ps.length = N := ⟨_, rfl⟩
  have HN := Lib.hid hN
  rw [hN]
  clear SPL HR2 BW HB3 HL2 hN PK
  have N12 : N ≤ 12 := by
    rcases Nat.lt_or_ge 12 N with q | q
    · have := (HP.out.2 12 (by rw [HN.out]; exact q)).2
      have := HL.out
      have : 12 * 1 ≤ 12 * K := Nat.mul_le_mul_left _ K1
      omega
    · exact q
  go_wp2
  go_loopg [10, 25] N (fun g v vi wr => ∃ (j : Nat) (qs : List (Int × Value)), vi = .int .i64 (j : Int) ∧ j + g = N ∧ wr.ownsRow y.heap.size 31 2 v qs.length (qs.flatMap rcC) ∧ Prs y y.heap.size qs (rs.take (j * K)) ∧ Below y.heap.size y wr)
  case atStart => exact ⟨0, [], rfl, by omega, World.ownsRow_nil _ _ _ _, by rw [Nat.zero_mul, List.take_zero]; exact Prs.nil, Below.refl _ _⟩
  case round =>
    obtain ⟨j, qs, rfl, hj, o1, o2, o3⟩ := hrel
    have OO := Lib.hid (And.intro o1 (And.intro o2 o3))
    have HJ := Lib.hid hj
    obtain ⟨va, vc, rfl⟩ := own_sl o1
    clear o1 o2 o3 hj
    have QL : Hid (qs.length ≤ 12) := Lib.hid (by have h1 := OO.out.2.1.1; have h2 := HL.out; rw [List.length_take] at h1; omega)
    by_cases hjN : j < N
    · have t : (j : Int) < (N : Int) := by omega
      have hj' : j < ps.length := by rw [HN.out]; exact hjN
      obtain ⟨g, a1, c1, rfl, hpc, hg9, hg, k1, k2⟩ := HAT.out j hj'
      obtain ⟨e1, e2⟩ := HP.out.2 j hj'
      obtain ⟨pj, hpj⟩ : ∃ pj, ps[j]'hj' = pj := ⟨_, rfl⟩
      rw [hpj] at e1 k1 k2
      obtain ⟨m, hm⟩ : ∃ m, pj.length = m := ⟨_, rfl⟩
      have hml : m = min K (L - j * K) := by rw [← hm, e1, partF_len, HL.out]
      have hjL : j * K < L := by have := HL.out; omega
      have m0 : 0 < m := by omega
      have mK : m ≤ K := by omega
      have hlast : j + 1 < N → m = K := by
        intro q
        have := (HP.out.2 (j + 1) (by rw [HN.out]; exact q)).2
        rw [Nat.succ_mul, HL.out] at this
        omega
      rw [hm] at k1 k2
      have kc : wr.cell? ⟨g, j, none⟩ = some (.slice a1 m c1) := (OO.out.2.2.cell (p := ⟨g, j, none⟩) hg).trans k1
      have RQ : RecsAt y y.heap.size (.slice a1 m c1) pj := by
        obtain ⟨qs', q1, q2, _⟩ := k2
        exact inn_recs (by rw [hm]; omega) q2 q1
      obtain ⟨ts, t1, t2, t3⟩ := recs_row RQ
      rw [hm] at t2
      have SR := Lib.hid (t2.on OO.out.2.2)
      have ET : Hid (rs.take ((j + 1) * K) = rs.take (j * K) ++ pj) := Lib.hid (by rw [e1, Nat.succ_mul, List.take_add]; rfl)
      have TT := Lib.hid t1
      have TL : Hid (ts.length = m) := Lib.hid (by rw [t1.1, hm])
      have HLA := Lib.hid hlast
      have hNc : N ≤ pc := by rw [← HN.out]; exact hpc
      have hjc : (j : Int) < (pc : Int) := by omega
      have b1 : ((m : Int) == 0) = false := by simp; omega
      have b2 : ¬ m = 0 := by omega
      have b3 : ¬ (K : Int) < (m : Int) := by omega
      clear hpj hg9 t3 hm hml e1 e2 k1 k2 RQ t1 t2 hlast hj' hpc hg
      by_cases hj1 : j + 1 < N
      · have t2 : (j : Int) + 1 < (N : Int) := by omega
        have b4 : ((m : Int) != (K : Int)) = false := by have := HLA.out hj1; subst this; simp
        go_wp2_with (at_builtin; go_must (refine wpList_append_row (by rfl) _ _ 24 rfl y.heap.size 31 i0 _ 2 32 Try.underlying24 hi hz0 hz1 hz2 rfl (by decide) (.slice va qs.length vc) qs.length (qs.flatMap rcC) rfl OO.out.1 (.slice a1 m c1) m (ts.flatMap rcC) rfl SR.out (by have := QL.out; unfold maxLen; omega) (by have := QL.out; omega) OO.out.2.2.size ?_); intro v8 w8 hown8 hg8 ha8; have OW8 := Lib.hid hown8; have B8 : Hid (Below y.heap.size y w8) := Lib.hid (Below.gr OO.out.2.2 OO.out.1 hg8); clear hown8 hg8 ha8)
        go_roundg (gk - 1)
        case measure => have := HJ.out; omega
        case rel => exact ⟨j + 1, qs ++ ts, by go_num, by have := HJ.out; omega, by rw [List.length_append, TL.out, List.flatMap_append]; exact OW8.out, by rw [ET.out]; exact OO.out.2.1.app TT.out, B8.out⟩
      · have t2 : ¬ ((j : Int) + 1 < (N : Int)) := by omega
        go_wp2_with (at_builtin; go_must (refine wpList_append_row (by rfl) _ _ 24 rfl y.heap.size 31 i0 _ 2 32 Try.underlying24 hi hz0 hz1 hz2 rfl (by decide) (.slice va qs.length vc) qs.length (qs.flatMap rcC) rfl OO.out.1 (.slice a1 m c1) m (ts.flatMap rcC) rfl SR.out (by have := QL.out; unfold maxLen; omega) (by have := QL.out; omega) OO.out.2.2.size ?_); intro v8 w8 hown8 hg8 ha8; have OW8 := Lib.hid hown8; have B8 : Hid (Below y.heap.size y w8) := Lib.hid (Below.gr OO.out.2.2 OO.out.1 hg8); clear hown8 hg8 ha8)
        go_roundg (gk - 1)
        case measure => have := HJ.out; omega
        case rel => exact ⟨j + 1, qs ++ ts, by go_num, by have := HJ.out; omega, by rw [List.length_append, TL.out, List.flatMap_append]; exact OW8.out, by rw [ET.out]; exact OO.out.2.1.app TT.out, B8.out⟩
    · have t : ¬ ((j : Int) < (N : Int)) := by omega
      obtain rfl : j = N := by have := HJ.out; omega
      have E : rs.take (j * K) = rs := by rw [List.take_of_length_le]; have := HP.out.1; rw [HN.out] at this; exact this
      have RR : RecsAt wr wr.heap.size (.slice va qs.length vc) rs := own_recs (by have := HL.out; omega) (by have := OO.out.2.1; rw [E] at this; exact this.mono OO.out.2.2 OO.out.2.2.size) OO.out.1
      have RA := Lib.hid RR
      have RB := Lib.hid (HRY.out.mono OO.out.2.2 OO.out.2.2.size)
      have EQ : Hid (allB eqRc rs rs = true) := Lib.hid ((eqRs_iff _ _).2 rfl)
      clear E RR
      go_wp2_with (first
        | (go_at_call 20; refine Calls.mono (awake15 _) ?_; rintro e w9 ⟨rfl, hb9⟩; have HB9 := Lib.hid hb9; clear hb9)
        | (go_at_call 23; refine Calls.mono (same_recs _ _ rs rs _ (RA.out.mono HB9.out HB9.out.size) (RB.out.mono HB9.out HB9.out.size)) ?_; rw [EQ.out]; rintro e w10 ⟨rfl, hb10⟩; have HB10 := Lib.hid (Below.to HB9.out hb10); clear hb10))
      have BB := Below.to BY.out (Below.to OO.out.2.2 HB10.out)
      exact bodyPost_ret (v := .bool true) (by simp [results, Try.results9, go_sem, *]) rfl (⟨rfl, BB⟩)
end Go.Proofs.Ytkblkjfejaflkaa
