/-
  BATCHKEEPSARGUMENTS: the walk. Conditions: none.
-/
import Derived.Test.YtkblkjfejaflkaaBwh
import Derived.Test.YtkblkjfejaflkaaClm
set_option linter.unusedVariables false
set_option linter.unusedSimpArgs false
namespace Go.Proofs.Ytkblkjfejaflkaa
open Go.RowKit Go.ChangeShapes Go.WideShapes Go.ChangeAt
/-- Cells stay cells, and none is frozen anew. -/
structure Shp (w w' : World) : Prop where
  c : ∀ q u, w.cell? q = some u → ∃ u', w'.cell? q = some u'
  f : ∀ q, w'.frozen? q = w.frozen? q
theorem Shp.refl (w : World) : Shp w w := ⟨fun _ u h => ⟨u, h⟩, fun _ => rfl⟩
theorem Shp.st {a w : World} (h : Shp a w) (p : Addr) (v : Value) : Shp a (w.setCell p v) := by
  refine ⟨fun q u hq => ?_, fun q => by rw [World.frozen?_setCell]; exact h.f q⟩
  obtain ⟨u', hu⟩ := h.c q u hq
  by_cases e : q = p
  · subst e; exact ⟨v, World.cell?_setCell_same _ _ _ hu⟩
  · exact ⟨u', (World.cell?_setCell_other _ _ _ _ (fun e' => e e'.symm)).trans hu⟩
theorem own_form1 {w : World} {base : Nat} {e : TypeId} {size : Nat} {v : Value} {n : Nat} {xs : List Value} (h : w.ownsRow base e size v n xs) (hn : 0 < n) : ∃ g cap, v = .slice (some ⟨g, 0, none⟩) n cap := by
  rcases h.2 with ⟨_, h0⟩ | ⟨g, cap, _, rfl, _⟩
  · omega
  · exact ⟨g, cap, rfl⟩
theorem PartIn.head {B0 : Nat} {W : World} {g : Option Nat} {a : Option Addr} {m c : Nat} {rs : List Rc} (h : PartIn B0 W g (.slice a m c) rs) (hm : rs.length = m) (h0 : 0 < m) : ∃ b u, a = some ⟨b, 0, none⟩ ∧ m ≤ c ∧ B0 ≤ b ∧ b < W.heap.size ∧ g ≠ some b ∧ W.cell? ⟨b, 0, none⟩ = some u ∧ W.frozen? ⟨b, 0, none⟩ = false := by
  obtain ⟨ps, h1, h2, h3, _⟩ := h
  have hl := h2.1
  have ho := h1
  rcases own_at (f := rcC) (k := 2) (fun _ => rfl) h1 with ⟨rfl, _⟩ | ⟨b, cap, e, hcap, _, _, H⟩
  · simp at hl; omega
  · injection e with e1 e2 e3
    subst e1 e2 e3
    obtain ⟨k1, k2, k3⟩ := h3 b rfl
    have := H 0 (by omega) 0 _ (by omega) rfl
    exact ⟨b, _, rfl, by omega, k1, k2, k3, by simpa using this, World.ownsRow.frozenAt ho 0⟩
set_option maxRecDepth 8000 in
set_option maxHeartbeats 1000000 in
theorem bka_walk (vx vl : Value) (zx zl : List Int) (kn : Int) (w : World) (h0 : IntsAt w w.heap.size vx zx) (h1 : IntsAt w w.heap.size vl zl) :
    Calls Try.prog 11 #[vx, vl, .int .i64 kn] w fun e w' => e = .returned (.bool true) ∧ Below w.heap.size w w' := by
  have H0 := Lib.hid h0
  have H1 := Lib.hid h1
  clear h0 h1
  obtain ⟨i0, hi, hz0, hz1, hz2⟩ := info_parts infoRec
  obtain ⟨P, hP⟩ : ∃ P, pickI kn 3 = P := ⟨_, rfl⟩
  have hPb := pickI_bd kn (n := 3) (by omega)
  rw [hP] at hPb
  obtain ⟨K, hK⟩ : ∃ K : Nat, 1 + P = (K : Int) := ⟨(1 + P).toNat, by omega⟩
  have K1 : 1 ≤ K := by omega
  have K5 : K ≤ 5 := by omega
  have PK := Lib.hid (fun W => (by have q := pick_any kn 3 (by omega) (by omega) W; rw [hP] at q; exact q : Calls Try.prog 29 #[.int .i64 kn, .int .i64 3] W fun e w' => e = .returned (.int .i64 P) ∧ W = w'))
  clear hP
  go_enter Try.func11, Try.ntmps11
  go_upto_region 2 with (go_at_call 13; refine (keepSchema_any _ _ _ H0.out).mono ?_; rintro e w1 ⟨cv, cs, key, rfl, hc1, hs1, hl1, hb1⟩; obtain ⟨x1, rfl⟩ := Ext.of hb1; obtain ⟨ca, cc, rfl⟩ := cols_end hc1; obtain ⟨nn, hnn⟩ : ∃ nn, cs.length = nn := ⟨_, rfl⟩; rw [hnn] at hc1 hl1 ⊢; have HNN := Lib.hid hnn; clear hnn)
  refine captureM ?_
  intro y0 ey
  have yb1 : Below x1.it.heap.size x1.it y0 := by rw [ey]; exact (by repeat (first | with_reducible exact Below.refl _ _ | with_reducible assumption | with_reducible refine Below.al ?_ _ | with_reducible refine Below.on ?_ _ | with_reducible refine Below.st ?_ (by first | assumption | (simp; done) | (simp; omega)) _ | with_reducible refine Below.drew ?_))
  have yb : Below w.heap.size w y0 := by rw [ey]; exact (by repeat (first | with_reducible exact Below.refl _ _ | with_reducible assumption | with_reducible refine Below.al ?_ _ | with_reducible refine Below.on ?_ _ | with_reducible refine Below.st ?_ (by first | assumption | (simp; done) | (simp; omega)) _ | with_reducible refine Below.drew ?_))
  have zS0 : x1.it.heap.size < y0.heap.size := by rw [ey]; simp
  have s00 : y0.cell? ⟨x1.it.heap.size, 0, none⟩ = some (.slice ca nn cc) := by rw [ey]; simp (maxDischargeDepth := 9) [go_sem, *]
  have s10 : y0.cell? ⟨x1.it.heap.size, 1, none⟩ = some (.int .i64 key) := by rw [ey]; simp (maxDischargeDepth := 9) [go_sem, *]
  have HC := Lib.hid (hc1.mono yb1 yb1.size)
  have SP := Lib.hid (schema_parts hs1)
  have HS := Lib.hid hs1
  clear ey hc1 hs1 hb1 yb1
  generalize x1.it.heap.size = SB at *
  clear x1
  have I1 := Lib.hid ((H1.out.to fun k hk => yb.block k hk).mono yb.size)
  clear H0 H1
  go_upto_region 3 with (go_at_call 14; refine Calls.mono (loose_any _ cs key vl zl 8 _ HC.out I1.out (by decide) (by decide) SP.out.1 SP.out.2.2.1) ?_; rintro e w2 ⟨v2, rs, rfl, hr2, hl2, ho2, hb2⟩; obtain ⟨ra, rc, rfl⟩ := recs_end hr2; have RL : Hid (∀ r ∈ rs, r.row.length ≤ 4398046511104) := Lib.hid (fun r hr => by have e1 := (ho2 r hr).2.2.1; have e2 := SP.out.2.2.1; omega); obtain ⟨nr, hnr⟩ : ∃ nr, rs.length = nr := ⟨_, rfl⟩; have HR2 := Lib.hid hr2; have HB2 := Lib.hid hb2; rw [hnr] at hl2 HR2 ⊢; have HNR := Lib.hid hnr; clear hr2 ho2 hb2 hnr)
  have zS2 := Nat.lt_of_lt_of_le zS0 (HB2.out).size
  have s02 := ((HB2.out).cell (p := ⟨SB, 0, none⟩) zS0).trans s00
  have s12 := ((HB2.out).cell (p := ⟨SB, 1, none⟩) zS0).trans s10
  have BW := Lib.hid (Below.to yb HB2.out)
  have HC2 := Lib.hid (HC.out.mono HB2.out HB2.out.size)
  obtain ⟨ps, p1, p2, p3⟩ := recs_row HR2.out
  rw [HNR.out] at p2
  have PR := Lib.hid p1
  have SR := Lib.hid p2
  have PL : Hid (ps.length = nr) := Lib.hid (by rw [p1.1, HNR.out])
  have n8 : nr ≤ 8 := by omega
  clear p1 p2 p3 I1 HC yb HB2 hl2 s00 s10 zS0
  go_upto_region 4 with (first
    | (at_builtin; (refine wpList_append_row (by rfl) _ _ 24 rfl w2.heap.size 31 i0 _ 2 32 Try.underlying24 hi hz0 hz1 hz2 rfl (by decide) (.slice none 0 0) 0 [] rfl (World.ownsRow_nil _ _ _ _) (.slice ra nr rc) nr (ps.flatMap rcC) rfl SR.out (by unfold maxLen; omega) (by omega) (Nat.le_refl _) ?_; intro v3 w3 hown hg ha; rw [Nat.zero_add, List.nil_append] at hown; obtain ⟨a3, c3, rfl⟩ := own_form hown; have OW3 := Lib.hid hown; have B3 : Hid (Below w2.heap.size w2 w3) := Lib.hid (Below.gr (Below.refl w2.heap.size w2) (World.ownsRow_nil _ _ _ _ : w2.ownsRow w2.heap.size 31 2 (.slice none 0 0) 0 []) hg); clear hown hg ha))
    | (at_builtin; (have zs : SrcRow (w3.alloc (.cells #[.int .i64 77, .slice none 0 0] 31)) (.slice (some ⟨w3.heap.size, 0, none⟩) 1 1) 1 2 [.int .i64 77, .slice none 0 0] := ⟨rfl, (by simp [Value.oneCell']), .inr ⟨_, _, rfl, World.news_of_block (heap_alloc_new w3 _)⟩⟩); (have zb : w2.heap.size ≤ (w3.alloc (.cells #[.int .i64 77, .slice none 0 0] 31)).heap.size := by have := B3.out.size; rw [World.size_alloc]; omega); (have zo : (w3.alloc (.cells #[.int .i64 77, .slice none 0 0] 31)).ownsRow w2.heap.size 31 2 (.slice a3 nr c3) nr (ps.flatMap rcC) := OW3.out.alloc _); (refine wpList_append_row (by rfl) _ _ 24 rfl w2.heap.size 31 i0 _ 2 32 Try.underlying24 hi hz0 hz1 hz2 rfl (by decide) (.slice a3 nr c3) nr (ps.flatMap rcC) rfl zo (.slice (some ⟨w3.heap.size, 0, none⟩) 1 1) 1 [.int .i64 77, .slice none 0 0] rfl zs (by unfold maxLen; omega) (by omega) zb ?_); (intro v4 w4 hown hg ha); (obtain ⟨gb, cap, rfl⟩ := own_form1 hown (by omega)); (have OW4 := Lib.hid hown; have hcap : nr + 1 ≤ cap := own_cap hown; have hcapz : (nr : Int) ≤ (cap : Int) := (by omega)); (have B4 : Hid (Below w2.heap.size w2 w4) := Lib.hid (Below.gr (show Below w2.heap.size w2 (w3.alloc (.cells #[.int .i64 77, .slice none 0 0] 31)) from B3.out.alloc B3.out.size _) zo hg); clear hown hg ha zs zb zo)))
  have gb2 : w2.heap.size ≤ gb := own_base OW4.out gb rfl
  have F4 : Hid (RecsAt w4 w4.heap.size (.slice (some ⟨gb, 0, none⟩) nr cap) rs ∧ w4.cell? ⟨gb, nr * 2, none⟩ = some (.int .i64 77) ∧ gb < w4.heap.size) := Lib.hid (by
    have o4 := OW4.out
    rw [show ps.flatMap rcC ++ [Value.int .i64 77, .slice none 0 0] = (ps ++ [((77 : Int), Value.slice none 0 0)]).flatMap rcC by simp [rcC]] at o4
    have hl : (ps ++ [((77 : Int), Value.slice none 0 0)]).length = nr + 1 := by simp [PL.out]
    rw [← hl] at o4
    rcases own_at (f := rcC) (k := 2) (fun _ => rfl) o4 with ⟨e, _⟩ | ⟨g, c, e, hc, _, hg, H⟩
    · simp at e
    · injection e with e1 e2 e3
      injection e1 with e1
      injection e1 with e1
      subst e1 e3
      refine ⟨⟨by rw [HNR.out]; omega, .inr ⟨gb, 0, cap, by rw [HNR.out], by rw [HNR.out]; omega, hg, fun j hj => ?_⟩⟩, ?_, hg⟩
      · have hj' : j < ps.length := by rw [PL.out, ← HNR.out]; exact hj
        have ej : (ps ++ [((77 : Int), Value.slice none 0 0)])[j]'(by simp; omega) = ps[j]'hj' := List.getElem_append_left hj'
        have q0 := H j (by simp; omega) 0 _ (by omega) rfl
        have q1 := H j (by simp; omega) 1 _ (by omega) rfl
        have qq := PR.out.2 j hj' hj
        simp only [ej] at q0 q1
        exact ⟨by rw [Nat.zero_add, ← qq.1]; simpa using q0, _, by rw [Nat.zero_add]; exact q1, qq.2.mono B4.out B4.out.size⟩
      · have q0 := H nr (by simp [PL.out]) 0 (.int .i64 77) (by omega) (by simp [PL.out, rcC])
        simpa using q0)
  have zS4 := Nat.lt_of_lt_of_le zS2 (B4.out).size
  have s04 := ((B4.out).cell (p := ⟨SB, 0, none⟩) zS2).trans s02
  have s14 := ((B4.out).cell (p := ⟨SB, 1, none⟩) zS2).trans s12
  have HC4 := Lib.hid (HC2.out.mono B4.out B4.out.size)
  have HZ4 := Lib.hid (HR2.out.mono B4.out B4.out.size)
  have BW4 := Lib.hid (Below.to BW.out B4.out)
  have SPL := Lib.hid (split_any _ rs (K : Int) _ F4.out.1 (by rw [HNR.out]; omega) RL.out (by omega) (by omega))
  clear SR PR OW3 OW4 B3 B4 HC2 HR2 BW s02 s12 zS2
  go_upto_region 5 with (first
    | (go_at_call 29; refine Calls.mono (PK.out _) ?_; rintro e w9 ⟨rfl, rfl⟩)
    | (go_at_call 12; refine Calls.mono SPL.out ?_; rintro e w5 ⟨v5, lvs, pp, rfl, hp, hM, hb5⟩; rw [Int.toNat_natCast] at hp; have HP := Lib.hid hp.at; obtain ⟨pa, pc, rfl, hat⟩ := hM.at2; have HAT := Lib.hid hat; have HB5 := Lib.hid hb5; obtain ⟨np, hnp⟩ : ∃ np, pp.length = np := ⟨_, rfl⟩; rw [hnp]; have HNP := Lib.hid hnp; clear hp hM hat hb5 hnp))
  have zS5 := Nat.lt_of_lt_of_le zS4 (HB5.out).size
  have s05 := ((HB5.out).cell (p := ⟨SB, 0, none⟩) zS4).trans s04
  have s15 := ((HB5.out).cell (p := ⟨SB, 1, none⟩) zS4).trans s14
  have BS5 := Lib.hid (bsort_any (.slice ca nn cc) cs key (.slice (some ⟨gb, 0, none⟩) nr cap) rs w5 (HC4.out.mono HB5.out HB5.out.size) (F4.out.1.mono HB5.out HB5.out.size) (by rw [HNR.out]; omega) (stable_small (by rw [HNR.out]; omega)))
  go_upto_region 6 with (go_at_call 24; refine Calls.mono BS5.out ?_; rintro e w6 ⟨v6, qs, rfl, M6, hb6⟩; have Q6 := Lib.hid M6.row; have HB6 := Lib.hid (Below.to HB5.out hb6); obtain ⟨nq, hnq⟩ : ∃ nq, qs.length = nq := ⟨_, rfl⟩; have HQN := Lib.hid hnq; have hb6h := Lib.hid hb6; obtain ⟨qa, qc, rfl⟩ : ∃ a c, v6 = .slice a nq c := (by rcases M6.row with ⟨rfl, a, c, rfl⟩ | ⟨blk, cap, e, _⟩; (exact ⟨a, c, by rw [← hnq]; rfl⟩); (exact ⟨_, cap, by rw [← hnq]; exact e⟩)); have nq8 : nq ≤ 8 := (by have e1 := M6.inn.1; have e2 := sortF_len cs key rs; rw [HNR.out] at e2; omega); clear M6 hb6 hnq)
  have CLP := Lib.hid (columns_any _ rs 2 w6 (F4.out.1.mono HB6.out HB6.out.size) (by rw [HNR.out]; omega))
  go_upto_region 7 with (go_at_call 35; refine Calls.mono CLP.out ?_; rintro e w7 ⟨v7, rfl, hr7, hb7⟩; obtain ⟨a7, c7, rfl⟩ := rows_end hr7; have HB7 := Lib.hid (Below.to HB6.out hb7); have HB67 := Lib.hid hb7; clear hr7 hb7)
  clear CLP BS5 SPL PK RL HC4 SP HS s04 s14 zS4 s05 s15 zS5
  have NP8 : np ≤ 8 := by
    rcases Nat.lt_or_ge 8 np with q | q
    · have h1 := (HP.out.2 8 (by rw [HNP.out]; exact q)).2
      have h2 := HNR.out
      have : 8 * 1 ≤ 8 * K := Nat.mul_le_mul_left _ K1
      omega
    · exact q
  obtain ⟨S, hS⟩ : ∃ S : Nat → Prop, S = fun k => w4.heap.size ≤ k := ⟨_, rfl⟩
  have HS4 : Hid (∀ k, S k ↔ w4.heap.size ≤ k) := Lib.hid (by rw [hS]; exact fun _ => Iff.rfl)
  have HAT7 : Hid (∀ j, j < np → ∃ g b a' m c' u, pa = some ⟨g, 0, none⟩ ∧ np ≤ pc ∧ g < w7.heap.size ∧ w7.cell? ⟨g, j, none⟩ = some (.slice (some ⟨b, 0, none⟩) m c') ∧ 0 < m ∧ m ≤ c' ∧ w4.heap.size ≤ b ∧ b < w7.heap.size ∧ b ≠ g ∧ w7.cell? ⟨b, 0, none⟩ = some u ∧ w7.frozen? ⟨b, 0, none⟩ = false ∧ a' = some (⟨b, 0, none⟩ : Addr)) := Lib.hid (by
    intro j hj
    have hj' : j < pp.length := by rw [HNP.out]; exact hj
    obtain ⟨g, a', c', e1, e2, e3, e4, k1, k2⟩ := HAT.out j hj'
    obtain ⟨q1, q2⟩ := HP.out.2 j hj'
    have hm0 : 0 < (pp[j]'hj').length := by rw [q1, partF_len]; omega
    obtain ⟨b, u, r1, r2, r3, r4, r5, r6, r7⟩ := k2.head rfl hm0
    have b57 : Below w5.heap.size w5 w7 := Below.to hb6h.out HB67.out
    rw [r1] at k1
    exact ⟨g, b, a', _, c', u, e1, by rw [← HNP.out]; exact e2, Nat.lt_of_lt_of_le e4 b57.size, (b57.cell (p := ⟨g, j, none⟩) e4).trans k1, hm0, r2, r3, Nat.lt_of_lt_of_le r4 b57.size, fun e => r5 (by rw [e]), (b57.cell (p := ⟨b, 0, none⟩) r4).trans r6, (b57.frozen (p := ⟨b, 0, none⟩) r4).trans r7, r1⟩)
  clear HAT HP hS
  go_wp2
  go_loopg [39] np (fun g s wr => ∃ j : Nat, s = .int .i64 (j : Int) ∧ j + g = np ∧ Mv S w7 wr ∧ Shp w7 wr ∧ ∀ g' q, pa = some ⟨g', 0, none⟩ → wr.cell? ⟨g', q, none⟩ = w7.cell? ⟨g', q, none⟩)
  case atStart => exact ⟨0, rfl, by omega, Mv.refl _ _, Shp.refl _, fun _ _ _ => rfl⟩
  case round =>
    obtain ⟨j, rfl, hj, m1, m2, m3⟩ := hrel
    have MM := Lib.hid (And.intro m1 (And.intro m2 m3))
    have HJ := Lib.hid hj
    clear m1 m2 m3 hj
    by_cases hjn : j < np
    · have t : (j : Int) < (np : Int) := by omega
      obtain ⟨g, b, a', m, c', u, rfl, k1, k2, k3, k4, k5, k6, k7, k8, k9, k10, _⟩ := HAT7.out j hjn
      have x1 : wr.cell? ⟨g, j, none⟩ = some (.slice (some ⟨b, 0, none⟩) m c') := (MM.out.2.2 g j rfl).trans k3
      obtain ⟨u', x2⟩ := MM.out.2.1.c _ _ k9
      have x3 : wr.frozen? ⟨b, 0, none⟩ = false := (MM.out.2.1.f _).trans k10
      have x4 : (j : Int) < (pc : Int) := by omega
      have x5 : (0 : Int) < (m : Int) := by omega
      have x6 : (0 : Int) < (c' : Int) := by omega
      clear k3 k9 k10
      go_wp2
      go_roundg (gk - 1)
      case measure => have := HJ.out; omega
      case rel =>
        refine ⟨j + 1, by go_num, by have := HJ.out; omega, MM.out.1.st (.inl ((HS4.out b).2 k6)) _, MM.out.2.1.st _ _, fun g' q hg' => ?_⟩
        injection hg' with hg'
        injection hg' with hg'
        subst hg'
        exact (World.cell?_setCell_other _ _ _ _ (by intro e; injection e with e; exact k8 e)).trans (MM.out.2.2 g q rfl)
    · have t : ¬ (j : Int) < (np : Int) := by omega
      have M1 := Lib.hid (And.intro MM.out.1 MM.out.2.1)
      clear MM HAT7
      go_wp2_with fail
      go_loopg [51] nq (fun g s wr => ∃ j : Nat, s = .int .i64 (j : Int) ∧ j + g = nq ∧ Mv S w7 wr ∧ Shp w7 wr)
      case atStart => exact ⟨0, rfl, by omega, M1.out.1, M1.out.2⟩
      case round =>
        obtain ⟨i, rfl, hi', m1, m2⟩ := hrel
        have MM := Lib.hid (And.intro m1 m2)
        have HI := Lib.hid hi'
        clear m1 m2 hi' M1
        by_cases hin : i < nq
        · have t2 : (i : Int) < (nq : Int) := by omega
          obtain ⟨blk, rfl, hqc, kb, kc⟩ : ∃ blk, qa = some ⟨blk, 0, none⟩ ∧ nq ≤ qc ∧ w4.heap.size ≤ blk ∧ (∃ u, w7.cell? ⟨blk, i * 2, none⟩ = some u) ∧ w7.frozen? ⟨blk, i * 2, none⟩ = false := by
            rcases Q6.out with ⟨e, _⟩ | ⟨blk, cp, e, h1, h2, h3, h4, h5⟩
            · have := HQN.out; rw [e] at this; simp at this; omega
            · injection e with e1 e2 e3
              subst e1 e3
              exact ⟨blk, rfl, by rw [← HQN.out]; exact h1, Nat.le_trans HB5.out.size h2, ⟨_, (HB67.out.cell (p := ⟨blk, i * 2, none⟩) h3).trans (h4 i (by rw [HQN.out]; exact hin)).1⟩, (HB67.out.frozen (p := ⟨blk, i * 2, none⟩) h3).trans (h5 _)⟩
          obtain ⟨⟨u, kc1⟩, kc2⟩ := kc
          obtain ⟨u', x2⟩ := MM.out.2.c _ _ kc1
          have x3 : wr.frozen? ⟨blk, i * 2, none⟩ = false := (MM.out.2.f _).trans kc2
          have x4 : (i : Int) < (qc : Int) := by omega
          clear kc1 kc2
          go_wp2
          go_roundg (gk - 1)
          case measure => have := HI.out; omega
          case rel => exact ⟨i + 1, by go_num, by have := HI.out; omega, MM.out.1.st (.inl ((HS4.out blk).2 kb)) _, MM.out.2.st _ _⟩
        · have t2 : ¬ (i : Int) < (nq : Int) := by omega
          have BR : Below w4.heap.size w4 wr := MM.out.1.below HB7.out (fun k hk => (HS4.out k).1 hk)
          have HBR := Lib.hid BR
          have RA := Lib.hid (F4.out.1.mono BR BR.size)
          have RB := Lib.hid (HZ4.out.mono BR BR.size)
          have EQ : Hid (allB eqRc rs rs = true) := Lib.hid ((eqRs_iff _ _).2 rfl)
          have nz : (nr : Int) + 1 ≤ (cap : Int) := by omega
          clear BR MM
          go_wp2_with (first
            | (go_at_call 20; refine Calls.mono (awake15 _) ?_; rintro e w9 ⟨rfl, hb9⟩; have HB9 := Lib.hid hb9; clear hb9)
            | (go_at_call 23; refine Calls.mono (same_recs _ _ rs rs _ (RA.out.mono HB9.out HB9.out.size) (by have q := RB.out.mono HB9.out HB9.out.size; exact q)) ?_; rw [EQ.out]; rintro e w10 ⟨rfl, hb10⟩; have HB10 := Lib.hid (Below.to HBR.out (Below.to HB9.out hb10)); have y0 : w10.cell? ⟨gb, nr * 2, none⟩ = some (.int .i64 77) := (HB10.out.cell (p := ⟨gb, nr * 2, none⟩) F4.out.2.2).trans F4.out.2.1; clear hb10))
          have BB := Below.to BW4.out HB10.out
          exact bodyPost_ret (v := .bool true) (by simp [results, Try.results11, go_sem, *]) rfl (⟨rfl, BB⟩)
end Go.Proofs.Ytkblkjfejaflkaa
