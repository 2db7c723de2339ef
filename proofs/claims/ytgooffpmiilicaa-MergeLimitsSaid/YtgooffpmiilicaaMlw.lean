/-
  MERGELIMITS: the walk. Conditions: none.
-/
import Derived.Test.YtgooffpmiilicaaMaw
set_option linter.unusedVariables false
set_option linter.unusedSimpArgs false
namespace Go.Proofs.Ytgooffpmiilicaa
open Go.RowKit Srt
theorem infoRcsL : (Try.prog.info? 22).map (fun i => (i.zero, i.size, i.bytes)) = some (some (.slice none 0 0), 1, 24) := by kernel_rfl
theorem infoI64 : (Try.prog.info? 2).map (fun i => (i.zero, i.size, i.bytes)) = some (some (.int .i64 0), 1, 8) := by kernel_rfl
theorem made_z (w : World) (T : TypeId) (z : Value) (n q : Nat) (h : q < n) : (w.alloc (.cells (madeCells #[z] n) T)).cell? ⟨w.heap.size, q, none⟩ = some z := by
  rw [cell_of_row _ w.heap.size q _ T (0, 0) (heap_alloc_new w _)]
  simp [madeCells, h, Nat.mod_one]
def zl (j : Nat) : List Rc := listF 0 (List.replicate j 0)
theorem z_valid : ∀ (j : Nat) (s : Int), 0 ≤ s → s + j ≤ 100000 → (listF s (List.replicate j 0)).any (badR [aCol]) = false
  | 0, _, _, _ => rfl
  | j + 1, s, h0, h1 => by
    rw [List.replicate_succ]
    show (badR [aCol] ⟨s, [⟨false, 0, ⟨#[]⟩⟩]⟩ || _) = false
    rw [z_valid j (s + 1) (by omega) (by omega)]
    have e1 : ¬ s < 0 := by omega
    have e2 : ¬ 1099511627776 < s := by omega
    simp [badR, rowE, rowEs, aCol, vchk, permF, a_tl0, e1, e2]
theorem z_lt (s : Int) : recD (tyK [aCol] 0) 0 ⟨s, [⟨false, 0, ⟨#[]⟩⟩]⟩ ⟨s + 1, [⟨false, 0, ⟨#[]⟩⟩]⟩ < 0 := by
  have e : s < s + 1 := by omega
  simp [recD, rankF, cmpR, cmpV, cmpI, orF, tyK, aCol, e]
theorem z_asc : ∀ (j : Nat) (s : Int), ascF (recD (tyK [aCol] 0) 0) (listF s (List.replicate j 0)) = true
  | 0, _ => rfl
  | 1, _ => rfl
  | j + 2, s => by
    have ih := z_asc (j + 1) (s + 1)
    rw [List.replicate_succ] at ih ⊢
    rw [List.replicate_succ]
    show (decide (recD (tyK [aCol] 0) 0 ⟨s, [⟨false, 0, ⟨#[]⟩⟩]⟩ ⟨s + 1, [⟨false, 0, ⟨#[]⟩⟩]⟩ < 0) && _) = true
    rw [decide_eq_true (z_lt s), Bool.true_and]
    exact ih
theorem z_sorted (j : Nat) (h : j ≤ 2000) : sortedF [aCol] 0 (zl j) = true := by
  unfold sortedF validF zl
  rw [a_schema, z_valid j 0 (by omega) (by omega), z_asc]
  rfl
theorem zl_len (j : Nat) : (zl j).length = j := by unfold zl; rw [listF_len, List.length_replicate]
def limLs (k j : Nat) : List (List Rc) := zl j :: List.replicate k []
theorem lim_merge (k j : Nat) (hj : j ≤ 2000) : mergeE [aCol] 0 (limLs k j) = (if 16 < k + 1 then 7 else if 1024 < j then 7 else 0) ∧ (mergeR [aCol] 0 (limLs k j)).length = (if 16 < k + 1 then 0 else if 1024 < j then 0 else j) := by
  have hl : (limLs k j).length = k + 1 := by unfold limLs; simp
  have hb : longB (limLs k j) = decide (1024 < j) := by
    unfold longB limLs
    rw [List.any_cons, zl_len]
    have : (List.replicate k ([] : List Rc)).any (fun l => decide (1024 < l.length)) = false := by
      rw [List.any_eq_false]; intro l hl; rw [(List.mem_replicate.1 hl).2]; simp
    rw [this, Bool.or_false]
  have hs : sortB [aCol] 0 (limLs k j) = true := by
    unfold sortB limLs
    rw [List.all_cons, z_sorted j hj, Bool.true_and, List.all_eq_true]
    intro l hl
    rw [(List.mem_replicate.1 hl).2]
    unfold sortedF validF
    rw [a_schema]
    rfl
  by_cases h1 : 16 < k + 1
  · rw [if_pos h1, if_pos h1]
    obtain ⟨a, b⟩ := mergeE_many (Ls := limLs k j) a_schema (by rw [hl]; exact h1)
    exact ⟨a, by rw [b]; rfl⟩
  · rw [if_neg h1, if_neg h1]
    by_cases h2 : 1024 < j
    · rw [if_pos h2, if_pos h2]
      obtain ⟨a, b⟩ := mergeE_long (Ls := limLs k j) a_schema (by rw [hl]; exact h1) (by rw [hb]; simpa using h2)
      exact ⟨a, by rw [b]; rfl⟩
    · rw [if_neg h2, if_neg h2]
      obtain ⟨a, b⟩ := mergeE_ok (Ls := limLs k j) a_schema (by rw [hl]; exact h1) (by rw [hb]; simpa using h2) hs
      refine ⟨a, ?_⟩
      rw [b, srt_len]
      unfold limLs
      rw [List.flatten_cons, List.length_append, zl_len]
      have : (List.replicate k ([] : List Rc)).flatten = [] := by simp
      rw [this]; rfl
theorem lim_parts {w : World} {g : Nat} {v : Value} {k j : Nat} (hg : g < w.heap.size) (c0 : w.cell? ⟨g, 0, none⟩ = some v) (c1 : ∀ q, q < k → w.cell? ⟨g, q + 1, none⟩ = some (.slice none 0 0)) (h0 : RecsAt w w.heap.size v (zl j)) (hk : k ≤ 100) : PartsAt w w.heap.size (.slice (some ⟨g, 0, none⟩) (k + 1) (k + 1)) (limLs k j) := by
  have hl : (limLs k j).length = k + 1 := by unfold limLs; simp
  refine ⟨by omega, .inr ⟨g, 0, k + 1, by rw [hl], by omega, hg, fun q hq => ?_⟩⟩
  rcases q with _ | q
  · exact ⟨v, c0, h0⟩
  · have hq' : q < (List.replicate k ([] : List Rc)).length := by rw [hl] at hq; rw [List.length_replicate]; omega
    have e : (limLs k j)[q + 1]'hq = [] := (show (List.replicate k ([] : List Rc))[q]'hq' = [] from List.getElem_replicate hq')
    rw [e, Nat.zero_add]
    exact ⟨_, c1 q (by omega), by simp, .inl ⟨rfl, none, 0, rfl⟩⟩
def FarPost (w : World) (rs : List Rc) (n : Nat) (e : Ending) (w' : World) : Prop := ∃ a c, e = .returned (.slice a n c) ∧ (∀ W : World, (∀ k, w.heap.size ≤ k → k < w'.heap.size → W.heap[k]? = w'.heap[k]?) → w'.heap.size ≤ W.heap.size → RecsAt W W.heap.size (.slice a n c) rs) ∧ Below w.heap.size w w'
set_option maxRecDepth 8000 in
set_option maxHeartbeats 1000000 in
theorem mlw_walk (n m : Int) (w : World) : Calls Try.prog 5 #[.int .i64 n, .int .i64 m] w fun e w' => e = .returned (.bool true) ∧ Below w.heap.size w w' := by
  obtain ⟨i0, hi, hz0, hz1, hz2⟩ := info_parts infoRcsL
  obtain ⟨i1, hj, hy0, hy1, hy2⟩ := info_parts infoI64
  obtain ⟨P, hP⟩ : ∃ P, pickI n 3 = P := ⟨_, rfl⟩
  obtain ⟨Q, hQ⟩ : ∃ Q, pickI m 3 = Q := ⟨_, rfl⟩
  have hPb := pickI_bd n (n := 3) (by omega)
  have hQb := pickI_bd m (n := 3) (by omega)
  rw [hP] at hPb
  rw [hQ] at hQb
  obtain ⟨k, hk⟩ : ∃ k : Nat, 15 + P = ((k + 1 : Nat) : Int) := ⟨(14 + P).toNat, by omega⟩
  obtain ⟨j, hj'⟩ : ∃ j : Nat, 1023 + Q = (j : Int) := ⟨(1023 + Q).toNat, by omega⟩
  have k16 : k ≤ 16 := by omega
  have j16 : j ≤ 1025 := by omega
  have PK := Lib.hid (fun W => (by have q := pick_any n 3 (by omega) (by omega) W; rw [hP] at q; exact q : Calls Try.prog 16 #[.int .i64 n, .int .i64 3] W fun e w' => e = .returned (.int .i64 P) ∧ W = w'))
  have PK2 := Lib.hid (fun W => (by have q := pick_any m 3 (by omega) (by omega) W; rw [hQ] at q; exact q : Calls Try.prog 16 #[.int .i64 m, .int .i64 3] W fun e w' => e = .returned (.int .i64 Q) ∧ W = w'))
  obtain ⟨kk, hkk⟩ : ∃ kk : Nat, kk = k + 1 := ⟨_, rfl⟩
  rw [← hkk] at hk
  have hmk := fun w => run_make (P := Try.prog) w 31 22 i0 _ Try.underlying31 hi hz0 .i64 .i64 (kk : Int) (kk : Int) (by omega) (Int.le_refl _) (by rw [hz2]; omega) (by omega)
  simp only [Int.toNat_natCast, hz1] at hmk
  have hmk2 := fun w => run_make (P := Try.prog) w 32 2 i1 _ Try.underlying32 hj hy0 .i64 .i64 (j : Int) (j : Int) (by omega) (Int.le_refl _) (by rw [hy2]; omega) (by omega)
  simp only [Int.toNat_natCast, hy1] at hmk2
  have LZ : Hid (∀ W : World, Calls Try.prog 12 #[.int .i64 0, .slice (some ⟨W.heap.size, 0, none⟩) j j] (W.alloc (.cells (madeCells #[.int .i64 0] j) 2)) (FarPost (W.alloc (.cells (madeCells #[.int .i64 0] j) 2)) (zl j) j)) := Lib.hid (fun W => by
    have lr : (List.replicate j (0 : Int)).length = j := List.length_replicate
    refine Calls.mono (list_own 0 _ (List.replicate j 0) _ ⟨fun z hz => by rw [(List.mem_replicate.1 hz).2]; exact isI_small (by omega) (by omega), by omega, ?_⟩ (by decide) (by decide) (by omega)) ?_
    · rw [lr]
      refine .inr ⟨W.heap.size, 0, j, rfl, by simp, fun q hq => ?_⟩
      rw [Nat.zero_add, made_z W _ _ j q hq]
      simp [List.getD, hq]
    · rintro e w' ⟨v, ps, rfl, M⟩
      have pl : ps.length = j := by rw [M.inn.1, listF_len, lr]
      obtain ⟨a, c, rfl⟩ := own_form M.own
      rw [pl] at M ⊢
      exact ⟨a, c, rfl, fun W' h1 h2 => M.far (by rw [listF_len, lr]; omega) h1 h2, M.below⟩)
  have LM := lim_merge k j (by omega)
  have MG : Hid (∀ (W : World) (cv : Value) (g : Nat) (v : Value), ColsAt W W.heap.size cv [aCol] → g < W.heap.size → W.cell? ⟨g, 0, none⟩ = some v → (∀ q, q < k → W.cell? ⟨g, q + 1, none⟩ = some (.slice none 0 0)) → RecsAt W W.heap.size v (zl j) → Calls Try.prog 10 #[.agg #[cv, .int .i64 0], .slice (some ⟨g, 0, none⟩) kk kk] W fun e w' => ∃ a c, e = .returned (.tuple #[.slice a (if 16 < k + 1 then 0 else if 1024 < j then 0 else j) c, .int .i64 (if 16 < k + 1 then 7 else if 1024 < j then 7 else 0)]) ∧ Below W.heap.size W w') := Lib.hid (fun W cv g v hc hg c0 c1 h0 => by
    rw [hkk]
    refine Calls.mono (merge_any cv [aCol] 0 _ (limLs k j) W hc (lim_parts hg c0 c1 h0 (by omega))) ?_
    rintro e w' ⟨v, rfl, hr, hb⟩
    obtain ⟨a, c, rfl⟩ := recs_end hr
    exact ⟨a, c, by rw [LM.1, LM.2], hb⟩)
  have KK := Lib.hid hkk
  have kk0 : (0 : Int) < (kk : Int) := by omega
  have kkn : 0 < kk := by omega
  clear LM hP hQ hkk
  go_enter Try.func5, Try.ntmps5
  go_upto_region 3 with (go_at_call 16; refine Calls.mono (PK.out _) ?_; rintro e w1 ⟨rfl, rfl⟩)
  refine captureM ?_
  intro y ey
  have yb : Below w.heap.size w y := by rw [ey]; exact (by repeat (first | with_reducible exact Below.refl _ _ | with_reducible assumption | with_reducible refine Below.al ?_ _ | with_reducible refine Below.on ?_ _ | with_reducible refine Below.st ?_ (by first | assumption | (simp; done) | (simp; omega)) _ | with_reducible refine Below.drew ?_))
  have CZ : ∀ q, q < kk → y.cell? ⟨w.heap.size, q, none⟩ = some (.slice none 0 0) := fun q hq => by rw [ey]; exact made_z w _ _ kk q hq
  have y0 := CZ 0 kkn
  have yf : y.frozen? ⟨w.heap.size, 0, none⟩ = false := by rw [ey]; exact frozen_of_row _ w.heap.size 0 _ _ (heap_alloc_new w _)
  have ys : w.heap.size < y.heap.size := by rw [ey]; simp
  have CZH := Lib.hid CZ
  have YB := Lib.hid yb
  clear ey CZ yb hmk
  go_upto_region 5 with (first | (go_at_call 16; refine Calls.mono (PK2.out _) ?_; rintro e w1 ⟨rfl, rfl⟩) | (go_at_call 12; refine Calls.mono (LZ.out _) ?_; rintro e w2 ⟨a2, c2, rfl, hr2, hb2⟩; have HR2 := Lib.hid hr2; clear hr2; obtain ⟨x2, rfl⟩ := Ext.of hb2; have z2 : w.heap.size < x2.it.heap.size := x2.lt (by simp; omega); have q2 : x2.it.cell? ⟨w.heap.size, 0, none⟩ = some (.slice none 0 0) := (x2.cell w.heap.size 0 (by simp; omega)).trans (by simp (maxDischargeDepth := 9) [go_sem, *]); have f2 : x2.it.frozen? ⟨w.heap.size, 0, none⟩ = false := (x2.frozen w.heap.size 0 (by simp; omega)).trans (by simp (maxDischargeDepth := 9) [go_sem, *])))
  refine captureM ?_
  intro u eu
  have yz : Below y.heap.size y x2.it := (by repeat (first | with_reducible exact Below.refl _ _ | with_reducible assumption | with_reducible refine Below.al ?_ _ | with_reducible refine Below.on ?_ _ | with_reducible refine Below.st ?_ (by first | assumption | (simp; done) | (simp; omega)) _ | with_reducible refine Below.drew ?_))
  have ub : Below w.heap.size w u := by rw [eu]; have yb := YB.out; have yy := Below.to yb yz; exact (by repeat (first | with_reducible exact Below.refl _ _ | with_reducible assumption | with_reducible refine Below.al ?_ _ | with_reducible refine Below.on ?_ _ | with_reducible refine Below.st ?_ (by first | assumption | (simp; done) | (simp; omega)) _ | with_reducible refine Below.drew ?_))
  have u0 : u.cell? ⟨w.heap.size, 0, none⟩ = some (.slice a2 j c2) := by rw [eu]; exact World.cell?_setCell_same' _ _ _ (by rw [q2]; rfl)
  have us : w.heap.size < u.heap.size := by rw [eu]; simpa using z2
  have UZ : Hid (∀ q, q < k → u.cell? ⟨w.heap.size, q + 1, none⟩ = some (.slice none 0 0)) := Lib.hid (fun q hq => by
    rw [eu, World.cell?_setCell_other (h := by intro e; simp at e)]
    exact (yz.cell (p := ⟨w.heap.size, q + 1, none⟩) ys).trans (CZH.out (q + 1) (by have := KK.out; omega)))
  have UR : Hid (RecsAt u u.heap.size (.slice a2 j c2) (zl j)) := Lib.hid (by
    rw [eu]
    refine HR2.out _ (fun k hk hk2 => Below.heap_setCell _ _ _ _ (fun e => ?_)) (by simp)
    simp at hk e
    omega)
  clear eu q2 f2 z2 yz y0 yf ys
  go_upto_region 6 with (first
    | (go_at_call 11; refine Calls.mono (one_any _) ?_; rintro e w3 ⟨g3, rfl, hc3, hb3⟩; have HC3 := Lib.hid hc3; clear hc3; obtain ⟨x3, rfl⟩ := Ext.of hb3)
    | (go_at_call 10; refine Calls.mono (MG.out _ _ _ _ HC3.out (x3.lt us) ((x3.cell w.heap.size 0 us).trans u0) (fun q hq => (x3.cell w.heap.size (q + 1) us).trans (UZ.out q hq)) (UR.out.mono x3.below x3.below.size)) ?_; rintro e w4 ⟨a4, c4, rfl, hb4⟩; obtain ⟨x4, rfl⟩ := Ext.of hb4))
  have kke := KK.out
  by_cases h1 : 16 < k + 1
  · have t1 : (16 : Int) < (kk : Int) := by omega
    have t1' : 16 < kk := by omega
    rw [if_pos h1, if_pos h1]
    clear MG LZ hmk2 UZ
    go_wp2_with (go_at_call 17; refine Calls.mono (awake29 _) ?_; rintro e w5 ⟨rfl, hb5⟩; obtain ⟨x5, rfl⟩ := Ext.of hb5)
    exact bodyPost_ret (v := .bool true) (by simp [results, Try.results5, go_sem, *]) rfl (⟨rfl, by repeat (first | with_reducible exact Below.refl _ _ | with_reducible assumption | with_reducible refine Below.al ?_ _ | with_reducible refine Below.on ?_ _ | with_reducible refine Below.st ?_ (by first | assumption | (simp; done) | (simp; omega)) _ | with_reducible refine Below.drew ?_)⟩)
  · rw [if_neg h1, if_neg h1]
    have t1 : ¬ (16 : Int) < (kk : Int) := by omega
    have t1' : ¬ 16 < kk := by omega
    by_cases h2 : 1024 < j
    · have t2 : (1024 : Int) < (j : Int) := by omega
      rw [if_pos h2, if_pos h2]
      clear MG LZ hmk2 UZ
      go_wp2_with (go_at_call 17; refine Calls.mono (awake29 _) ?_; rintro e w5 ⟨rfl, hb5⟩; obtain ⟨x5, rfl⟩ := Ext.of hb5)
      exact bodyPost_ret (v := .bool true) (by simp [results, Try.results5, go_sem, *]) rfl (⟨rfl, by repeat (first | with_reducible exact Below.refl _ _ | with_reducible assumption | with_reducible refine Below.al ?_ _ | with_reducible refine Below.on ?_ _ | with_reducible refine Below.st ?_ (by first | assumption | (simp; done) | (simp; omega)) _ | with_reducible refine Below.drew ?_)⟩)
    · have t2 : ¬ (1024 : Int) < (j : Int) := by omega
      rw [if_neg h2, if_neg h2]
      clear MG LZ hmk2 UZ
      go_wp2_with (go_at_call 17; refine Calls.mono (awake29 _) ?_; rintro e w5 ⟨rfl, hb5⟩; obtain ⟨x5, rfl⟩ := Ext.of hb5)
      exact bodyPost_ret (v := .bool true) (by simp [results, Try.results5, go_sem, *]) rfl (⟨rfl, by repeat (first | with_reducible exact Below.refl _ _ | with_reducible assumption | with_reducible refine Below.al ?_ _ | with_reducible refine Below.on ?_ _ | with_reducible refine Below.st ?_ (by first | assumption | (simp; done) | (simp; omega)) _ | with_reducible refine Below.drew ?_)⟩)
end Go.Proofs.Ytgooffpmiilicaa
