/-
  BATCHSORTONCE: the walk. Conditions: none.
-/
import Derived.Test.YtkblkjfejaflkaaAwk
import Derived.Test.YtkblkjfejaflkaaKrc
import Derived.Test.YtkblkjfejaflkaaSmr
import Derived.Test.YtkblkjfejaflkaaKsc
set_option linter.unusedVariables false
set_option linter.unusedSimpArgs false
namespace Go.Proofs.Ytkblkjfejaflkaa
open Go.RowKit Go.ChangeShapes Go.WideShapes Go.ChangeAt Srt
theorem asc_pair {d : Rc → Rc → Int} (hp : Pre d) : ∀ {l : List Rc}, ascF d l = true → l.Pairwise (fun x y => d x y < 0)
  | [], _ => .nil
  | [_], _ => List.pairwise_singleton _ _
  | x :: y :: r, h => by
    unfold ascF at h
    rw [Bool.and_eq_true] at h
    have h1 : d x y < 0 := by simpa using h.1
    have h2 := asc_pair hp h.2
    refine List.pairwise_cons.2 ⟨fun z hz => ?_, h2⟩
    rcases List.mem_cons.1 hz with e | hz
    · rw [e]; exact h1
    · exact hp.lt_le h1 (by have := (List.pairwise_cons.1 h2).1 z hz; omega)
theorem srt_asc {d : Rc → Rc → Int} (hp : Pre d) {l : List Rc} (h : l.Pairwise (fun x y => d x y < 0)) : srt d l = l := by
  have key : ∀ (l acc : List Rc), (acc.reverse ++ l).Pairwise (fun x y => d x y < 0) → l.foldl (fun acc x => insR d x acc) acc = l.reverse ++ acc := by
    intro l
    induction l with
    | nil => intro acc _; rfl
    | cons x r ih =>
      intro acc h
      have e : insR d x acc = x :: acc := by
        cases acc with
        | nil => rfl
        | cons y t =>
          unfold insR
          rw [if_neg]
          have := (List.pairwise_append.1 h).2.2 y (by simp) x (by simp)
          have := hp.anti y x
          omega
      rw [List.foldl_cons, e, ih (x :: acc) (by simpa using h)]
      simp
  unfold srt srtR
  rw [key l [] (by simpa using h)]
  simp
theorem sort_fix {cs : List Col} {key : Int} {rs : List Rc} (h : sortedF cs key rs = true) : sortF cs key rs = rs := by
  unfold sortedF at h
  rw [Bool.and_eq_true] at h
  unfold sortF
  rw [if_pos h.1]
  exact srt_asc (recD_pre _ _) (asc_pair (recD_pre _ _) h.2)
set_option maxRecDepth 8000 in
set_option maxHeartbeats 1000000 in
theorem bso_walk (vx vl : Value) (zx zl : List Int) (w : World) (h0 : IntsAt w w.heap.size vx zx) (h1 : IntsAt w w.heap.size vl zl) :
    Calls Try.prog 7 #[vx, vl] w fun e w' => e = .returned (.bool true) ∧ Below w.heap.size w w' := by
  have H0 := Lib.hid h0
  have H1 := Lib.hid h1
  clear h0 h1
  go_enter Try.func7, Try.ntmps7
  go_upto_region 2 with (go_at_call 13; refine (keepSchema_any _ _ _ H0.out).mono ?_; rintro e w1 ⟨cv, cs, key, rfl, hc1, hs1, hl1, hb1⟩; obtain ⟨x1, rfl⟩ := Ext.of hb1; obtain ⟨ca, cc, rfl⟩ := cols_end hc1; obtain ⟨nn, hnn⟩ : ∃ nn, cs.length = nn := ⟨_, rfl⟩; rw [hnn] at hc1 hl1 ⊢; have HNN := Lib.hid hnn; clear hnn)
  refine captureM ?_
  intro y0 ey
  have yb1 : Below x1.it.heap.size x1.it y0 := by rw [ey]; exact (by repeat (first | with_reducible exact Below.refl _ _ | with_reducible assumption | with_reducible refine Below.al ?_ _ | with_reducible refine Below.on ?_ _ | with_reducible refine Below.st ?_ (by first | assumption | (simp; done) | (simp; omega)) _ | with_reducible refine Below.drew ?_))
  have yb : Below w.heap.size w y0 := by rw [ey]; exact (by repeat (first | with_reducible exact Below.refl _ _ | with_reducible assumption | with_reducible refine Below.al ?_ _ | with_reducible refine Below.on ?_ _ | with_reducible refine Below.st ?_ (by first | assumption | (simp; done) | (simp; omega)) _ | with_reducible refine Below.drew ?_))
  have zS0 : x1.it.heap.size < y0.heap.size := by rw [ey]; simp
  have s00 : y0.cell? ⟨x1.it.heap.size, 0, none⟩ = some (.slice ca nn cc) := by rw [ey]; simp (maxDischargeDepth := 9) [go_sem, *]
  have s10 : y0.cell? ⟨x1.it.heap.size, 1, none⟩ = some (.int .i64 key) := by rw [ey]; simp (maxDischargeDepth := 9) [go_sem, *]
  have HC := Lib.hid (hc1.mono yb1 yb1.size)
  have SP := Lib.hid (schema_parts hs1)
  have HS := Lib.hid hs1
  clear ey hc1 hs1 hb1 yb1
  generalize x1.it.heap.size = SB at *
  clear x1
  have I1 := Lib.hid ((H1.out.to fun k hk => yb.block k hk).mono yb.size)
  clear H0 H1
  go_upto_region 3 with (go_at_call 27; refine Calls.mono (keepRecs_any _ cs key vl zl 12 _ HC.out I1.out (by decide) (by decide) HS.out SP.out.1 SP.out.2.2.1) ?_; rintro e w2 ⟨v2, rs, rfl, hr2, hl2, ho2, hs2, hb2⟩; obtain ⟨ra, rc, rfl⟩ := recs_end hr2; obtain ⟨nr, hnr⟩ : ∃ nr, rs.length = nr := ⟨_, rfl⟩; have HR2 := Lib.hid hr2; have HO2 := Lib.hid ho2; have HS2 := Lib.hid hs2; have HB2 := Lib.hid hb2; rw [hnr] at hl2 HR2 ⊢; have HNR := Lib.hid hnr; clear hr2 ho2 hs2 hb2 hnr)
  have zS2 := Nat.lt_of_lt_of_le zS0 (HB2.out).size
  have s02 := ((HB2.out).cell (p := ⟨SB, 0, none⟩) zS0).trans s00
  have s12 := ((HB2.out).cell (p := ⟨SB, 1, none⟩) zS0).trans s10
  have BW := Lib.hid (Below.to yb HB2.out)
  have HC2 := Lib.hid (HC.out.mono HB2.out HB2.out.size)
  have SOR := Lib.hid (fun (W : World) (hb : Below w2.heap.size w2 W) => (by have z := sorted_any (.slice ca nn cc) cs key (.slice ra nr rc) rs W (HC2.out.mono hb hb.size) (HR2.out.mono hb hb.size); rw [HS2.out] at z; exact z : Calls Try.prog 21 #[.agg #[.slice ca nn cc, .int .i64 key], .slice ra nr rc] W fun e w' => e = .returned (.bool true) ∧ Below W.heap.size W w'))
  have SRT := Lib.hid (fun (W : World) (hb : Below w2.heap.size w2 W) => (by have z := bsort_any (.slice ca nn cc) cs key (.slice ra nr rc) rs W (HC2.out.mono hb hb.size) (HR2.out.mono hb hb.size) (by rw [HNR.out]; omega) (stable_small (by rw [HNR.out]; omega)); rw [sort_fix HS2.out] at z; exact z : Calls Try.prog 24 #[.agg #[.slice ca nn cc, .int .i64 key], .slice ra nr rc] W (SortPost W rs)))
  have EQ : allB eqRc rs rs = true := (eqRs_iff _ _).2 rfl
  have HEQ := Lib.hid EQ
  clear EQ
  go_wp2_with (first
    | (go_at_call 20; refine Calls.mono (awake15 _) ?_; rintro e w3 ⟨rfl, hb3⟩; have B3 : Below w2.heap.size w2 w3 := hb3; have zS3 := Nat.lt_of_lt_of_le zS2 (hb3).size; have s03 := ((hb3).cell (p := ⟨SB, 0, none⟩) zS2).trans s02; have s13 := ((hb3).cell (p := ⟨SB, 1, none⟩) zS2).trans s12; clear hb3)
    | (go_at_call 21; refine Calls.mono (SOR.out _ B3) ?_; rintro e w4 ⟨rfl, hb4⟩; have B4 : Below w2.heap.size w2 w4 := Below.to B3 hb4; have zS4 := Nat.lt_of_lt_of_le zS3 (hb4).size; have s04 := ((hb4).cell (p := ⟨SB, 0, none⟩) zS3).trans s03; have s14 := ((hb4).cell (p := ⟨SB, 1, none⟩) zS3).trans s13; clear hb4)
    | (go_at_call 24; refine Calls.mono (SRT.out _ B4) ?_; rintro e w5 ⟨v5, ps5, rfl, M5, hb5⟩; have B5 : Below w2.heap.size w2 w5 := Below.to B4 hb5; have R5 := Lib.hid (M5.recs (by rw [HNR.out]; omega)); obtain ⟨a5, c5, rfl⟩ := recs_end R5.out; clear M5 hb5)
    | (go_at_call 23; refine Calls.mono (same_recs _ _ rs rs _ R5.out (HR2.out.mono B5 B5.size)) ?_; rw [HEQ.out]; rintro e w6 ⟨rfl, hb6⟩; have B6 := Lib.hid (Below.to B5 hb6); clear hb6))
  have BB := Below.to BW.out B6.out
  exact bodyPost_ret (v := .bool true) (by simp [results, Try.results7, go_sem, *]) rfl (⟨rfl, BB⟩)
end Go.Proofs.Ytkblkjfejaflkaa
