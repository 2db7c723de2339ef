/-
  MERGESPLITS: the walk. Conditions: the choices lie in memory.
-/
import Derived.Test.YtgooffpmiilicaaZa
import Derived.Test.YtgooffpmiilicaaSmr
import Derived.Test.YtgooffpmiilicaaKsc
import Derived.Test.YtgooffpmiilicaaKrc
import Derived.Deep.RegionHeld3
import Derived.Deep.DeepAppendWide
set_option linter.unusedVariables false
set_option linter.unusedSimpArgs false
namespace Go.Proofs.Ytgooffpmiilicaa
open Go.RowKit Srt
theorem insR_pair {β : Type} {d : β → β → Int} (hp : Pre d) (x : β) : ∀ {l : List β}, l.Pairwise (fun a b => ¬ d a b < 0) → (insR d x l).Pairwise (fun a b => ¬ d a b < 0)
  | [], _ => by unfold insR; simp
  | y :: r, h => by
    obtain ⟨h1, h2⟩ := List.pairwise_cons.1 h
    unfold insR
    split
    · rename_i q
      refine List.pairwise_cons.2 ⟨fun z hz => ?_, insR_pair hp x h2⟩
      rcases List.mem_cons.1 ((insR_perm d x r).mem_iff.1 hz) with rfl | hz
      · have := hp.anti z y; omega
      · exact h1 z hz
    · rename_i q
      refine List.pairwise_cons.2 ⟨fun z hz => ?_, h⟩
      rcases List.mem_cons.1 hz with rfl | hz
      · exact q
      · have q1 := (hp.nonneg x y).1 q
        have q2 := (hp.nonneg y z).1 (h1 z hz)
        exact (hp.nonneg x z).2 (hp.trans z y x q2 q1)
theorem srt_pair {β : Type} {d : β → β → Int} (hp : Pre d) (L : List β) : (srt d L).Pairwise (fun a b => ¬ d b a < 0) := by
  have key : ∀ (L acc : List β), acc.Pairwise (fun a b => ¬ d a b < 0) → (L.foldl (fun acc x => insR d x acc) acc).Pairwise (fun a b => ¬ d a b < 0) := by
    intro L
    induction L with
    | nil => intro acc h; exact h
    | cons x r ih => intro acc h; exact ih _ (insR_pair hp x h)
  unfold srt
  rw [List.pairwise_reverse]
  exact key L [] .nil
/-- Two orders that do not go together: one list alone. -/
theorem pair_mix {α : Type} {R S : α → α → Prop} (h : ∀ x y, R x y → S y x → False) : ∀ {l m : List α}, l.Pairwise R → m.Pairwise S → l.Perm m → l = m
  | [], m, _, _, p => by have := p.length_eq; cases m with | nil => rfl | cons => simp at this
  | x :: l, [], _, _, p => by have := p.length_eq; simp at this
  | x :: l, y :: m, hl, hm, p => by
    have hx : x ∈ y :: m := p.subset (by simp)
    have hy : y ∈ x :: l := p.symm.subset (by simp)
    have e : x = y := by
      rcases List.mem_cons.1 hx with e | hx
      · exact e
      · rcases List.mem_cons.1 hy with e | hy
        · exact e.symm
        · exact (h x y ((List.pairwise_cons.1 hl).1 y hy) ((List.pairwise_cons.1 hm).1 x hx)).elim
    subst e
    rw [pair_mix h (List.pairwise_cons.1 hl).2 (List.pairwise_cons.1 hm).2 (List.Perm.cons_inv p)]
theorem srt_of_perm {β : Type} {d : β → β → Int} (hp : Pre d) {L Z : List β} (hz : Z.Pairwise (fun x y => d x y < 0)) (p : L.Perm Z) : srt d L = Z :=
  (pair_mix (fun x y a b => b a) hz (srt_pair hp L) (p.symm.trans (srt_perm d L).symm)).symm
theorem run_append_row_wide {P : Program} {w : World} (base : Nat) (t ty e : TypeId) (i : TypeInfo) (z : Value) (size bytes : Nat) (ht : P.underlying t = some (.slice e)) (hi : P.info? e = some i) (hz : i.zero = some z) (hsize : i.size = size) (hby : i.bytes = bytes) (hzs : z.cells.size = size) (hsz : 0 < size)
    (v : Value) (n : Nat) (xs : List Value) (hown : w.ownsRow base e size v n xs) (xv : Value) (m : Nat) (news : List Value) (hx : SrcRow w xv m size news) (h63 : n + m ≤ maxLen) (hbytes : ((n + m) + (n + m) / 4 + 192) * bytes ≤ 281474976710656) (hbase : base ≤ w.heap.size) :
    ∃ v' w', (Builtin.append_ #[t, t] ty #[v, xv]).run P w = .ok v' w' ∧ w'.ownsRow base e size v' (n + m) (xs ++ news) ∧ w.grownBy w' v.ownBlock := by
  obtain ⟨hl, h1, hx⟩ := hx
  rcases hx with ⟨rfl, a, c, rfl⟩ | ⟨a, c, rfl, hc⟩
  · have e0 : news = [] := List.eq_nil_of_length_eq_zero (by simpa using hl)
    subst e0
    cases a with
    | none =>
      refine ⟨v, w, ?_, by simpa using hown, ⟨rfl, rfl, rfl, Nat.le_refl _, fun _ _ _ => rfl⟩⟩
      rcases hown.2 with ⟨rfl, rfl⟩ | ⟨g, cap, cur, rfl, _, _, hnc, _⟩
      · simp [Builtin.append_, run_underlying ht, sizeOf, typeInfo, hi, Builtin.lenOf, Builtin.firstCells]
      · simp [Builtin.append_, run_underlying ht, sizeOf, typeInfo, hi, Builtin.lenOf, Builtin.firstCells, hnc, storeCells]
    | some a =>
      obtain ⟨v', w', h1, h2, h3, _⟩ := run_append_own_wide (P := P) (w := w) base t ty e i z size bytes ht hi hz hsize hby hzs hsz v n xs hown a 0 c [] (by simp) (fun j u hj => by simp at hj) (fun u hu => by simp at hu) (by simpa using h63) (by simpa using hbytes) hbase
      exact ⟨v', w', h1, by simpa using h2, h3⟩
  · obtain ⟨v', w', k1, h2, h3, _⟩ := run_append_own_wide (P := P) (w := w) base t ty e i z size bytes ht hi hz hsize hby hzs hsz v n xs hown a m c news hl hc h1 h63 hbytes hbase
    exact ⟨v', w', k1, h2, h3⟩
theorem step_append_row_wide {P : Program} {w : World} {ops : Array Oper} {o : Oper} {a : Act} {K : Act → World → Prop} {Q : Exit → Act → World → Prop} {E : Prop} (hgd : o.guard = none) (s x : Operand) (t : TypeId)
    (ho : o.op = .call { callee := .builtin .append, args := #[s, x], argTypes := #[t, t] })
    (base : Nat) (e : TypeId) (i : TypeInfo) (z : Value) (size bytes : Nat) (ht : P.underlying t = some (.slice e)) (hi : P.info? e = some i) (hz : i.zero = some z) (hsize : i.size = size) (hby : i.bytes = bytes) (hzs : z.cells.size = size) (hsz : 0 < size)
    (v : Value) (n : Nat) (xs : List Value) (hs : a.eval s = v) (hown : w.ownsRow base e size v n xs) (xv : Value) (m : Nat) (news : List Value) (hxv : a.eval x = xv) (hx : SrcRow w xv m size news) (h63 : n + m ≤ maxLen) (hbytes : ((n + m) + (n + m) / 4 + 192) * bytes ≤ 281474976710656) (hbase : base ≤ w.heap.size)
    (h : ∀ v' w', w'.ownsRow base e size v' (n + m) (xs ++ news) → w.grownBy w' v.ownBlock → K (a.put o.dst v') w') : if Region.wanted o (yielded ops a.tmps) = true then Oper.wp P o a w K Q else E := by
  rw [if_pos (by simp [Region.wanted, hgd])]
  obtain ⟨v', w', hr, h2, h3⟩ := run_append_row_wide (P := P) base t o.type e i z size bytes ht hi hz hsize hby hzs hsz v n xs hown xv m news hx h63 hbytes hbase
  unfold Oper.wp execOp
  simp only [ho, resolve, invoke, builtin, Sem.run_bind, Sem.run_pure, Result.andThen_ok, List.map_toArray, List.map_cons, List.map_nil, hs, hxv, hr]
  exact h v' w' h2 h3
theorem parts_flat (Z : List Rc) (N : Nat) : ∀ k, ((starts N k).map (partF Z N)).flatten = Z.take (k * N)
  | 0 => by simp [starts]
  | k + 1 => by
    rw [starts_succ, List.map_append, List.flatten_append, parts_flat Z N k]
    simp only [List.map_cons, List.map_nil, List.flatten_cons, List.flatten_nil, List.append_nil, partF]
    rw [Nat.succ_mul, List.take_add]
theorem partsOf_flat {Z : List Rc} {N : Nat} {ps : List (List Rc)} (h : PartsOf Z N ps) : ps.flatten = Z := by
  obtain ⟨k, rfl, h1, _⟩ := h
  rw [parts_flat, List.take_of_length_le h1]
theorem partsOf_len {Z : List Rc} {N : Nat} {ps : List (List Rc)} (hN : 1 ≤ N) (h : PartsOf Z N ps) : ps.length ≤ Z.length := by
  obtain ⟨k, rfl, _, h2⟩ := h
  rw [List.length_map, starts_len]
  rcases k with _ | k
  · omega
  · have := h2 k (by omega)
    have := Nat.le_mul_of_pos_right k hN
    omega
theorem partsOf_sub {Z : List Rc} {N : Nat} {ps : List (List Rc)} (h : PartsOf Z N ps) : ∀ l ∈ ps, List.Sublist l Z := by
  obtain ⟨k, rfl, _, _⟩ := h
  intro l hl
  obtain ⟨i, _, rfl⟩ := List.mem_map.1 hl
  exact (List.take_sublist _ _).trans (List.drop_sublist _ _)
theorem sorted_sub {cs : List Col} {key : Int} {Z l : List Rc} (h : sortedF cs key Z = true) (hl : List.Sublist l Z) : sortedF cs key l = true := by
  have hp := sorted_pair h
  have hv := sorted_valid h
  unfold sortedF
  rw [Bool.and_eq_true]
  refine ⟨?_, ascF_of (hp.sublist hl)⟩
  unfold validF at hv ⊢
  rw [Bool.and_eq_true] at hv ⊢
  refine ⟨hv.1, ?_⟩
  have h2 : Z.any (badR cs) = false := by simpa using hv.2
  have : l.any (badR cs) = false := by
    rw [List.any_eq_false]
    intro r hr
    exact List.any_eq_false.1 h2 r (hl.subset hr)
  rw [this]; rfl
theorem rot_merge {cs : List Col} {key : Int} {Z : List Rc} {N : Nat} {ps : List (List Rc)} (hs : schemaF cs key = 0) (hN : 1 ≤ N) (hz : sortedF cs key Z = true) (hl : Z.length ≤ 12) (h : PartsOf Z N ps) (K : Nat) :
    mergeE cs key (ps.drop K ++ ps.take K) = 0 ∧ mergeR cs key (ps.drop K ++ ps.take K) = Z := by
  have pl := partsOf_len hN h
  have sub := partsOf_sub h
  have mem : ∀ l ∈ ps.drop K ++ ps.take K, l ∈ ps := fun l hm => by
    rcases List.mem_append.1 hm with q | q
    · exact List.mem_of_mem_drop q
    · exact List.mem_of_mem_take q
  obtain ⟨e1, e2⟩ := mergeE_ok (Ls := ps.drop K ++ ps.take K) hs (by rw [List.length_append, List.length_drop, List.length_take]; omega)
    (by unfold longB; rw [List.any_eq_false]; intro l hm; have := (sub l (mem l hm)).length_le; simp; omega)
    (by unfold sortB; rw [List.all_eq_true]; intro l hm; exact sorted_sub hz (sub l (mem l hm)))
  refine ⟨e1, ?_⟩
  rw [e2]
  refine srt_of_perm (recD_pre _ _) (sorted_pair hz) ?_
  have p : (ps.drop K ++ ps.take K).Perm ps := by
    have := List.perm_append_comm (l₁ := ps.drop K) (l₂ := ps.take K)
    rw [List.take_append_drop] at this
    exact this
  have := p.flatten
  rw [partsOf_flat h] at this
  exact this
/-- The parts' slices, as values. -/
theorem parts_row {w : World} {B : Nat} {v : Value} {ps : List (List Rc)} (h : PartsAt w B v ps) : ∃ lvs : List Value, lvs.length = ps.length ∧ (∀ j (h1 : j < lvs.length) (h2 : j < ps.length), RecsAt w B (lvs[j]'h1) (ps[j]'h2)) ∧ (0 < ps.length → ∃ b o c, v = .slice (some ⟨b, o, none⟩) ps.length c ∧ ps.length ≤ c ∧ b < B ∧ ∀ j (hj : j < lvs.length), w.cell? ⟨b, o + j, none⟩ = some (lvs[j]'hj)) := by
  rcases h.2 with ⟨rfl, _⟩ | ⟨b, o, c, rfl, hc, hb, hr⟩
  · exact ⟨[], rfl, fun j h1 => absurd h1 (by simp), fun h => absurd h (by simp)⟩
  · have key : ∀ n, n ≤ ps.length → ∃ lvs : List Value, lvs.length = n ∧ ∀ j (h1 : j < lvs.length) (h2 : j < ps.length), w.cell? ⟨b, o + j, none⟩ = some (lvs[j]'h1) ∧ RecsAt w B (lvs[j]'h1) (ps[j]'h2) := by
      intro n
      induction n with
      | zero => intro _; exact ⟨[], rfl, fun j h1 => absurd h1 (by simp)⟩
      | succ n ih =>
        intro hn
        obtain ⟨lvs, hl, hh⟩ := ih (by omega)
        obtain ⟨lv, k1, k2⟩ := hr n (by omega)
        refine ⟨lvs ++ [lv], by simp [hl], fun j h1 h2 => ?_⟩
        rcases Nat.lt_or_ge j lvs.length with q | q
        · rw [List.getElem_append_left q]; exact hh j q h2
        · obtain rfl : j = lvs.length := by simp at h1; omega
          have e : (lvs ++ [lv])[lvs.length]'h1 = lv := by simp
          rw [e]
          subst hl
          exact ⟨k1, k2⟩
    obtain ⟨lvs, hl, hh⟩ := key ps.length (Nat.le_refl _)
    exact ⟨lvs, hl, fun j h1 h2 => (hh j h1 h2).2, fun _ => ⟨b, o, c, rfl, hc, hb, fun j hj => (hh j hj (by omega)).1⟩⟩
theorem own_parts {w : World} {base : Nat} {T : TypeId} {v : Value} {lvs : List Value} {ps : List (List Rc)} (ho : w.ownsRow base T 1 v lvs.length lvs) (hl : lvs.length = ps.length) (h63 : ps.length ≤ 9223372036854775807) (hr : ∀ j (h1 : j < lvs.length) (h2 : j < ps.length), RecsAt w w.heap.size (lvs[j]'h1) (ps[j]'h2)) : PartsAt w w.heap.size v ps := by
  have e : lvs = lvs.flatMap one1 := by
    clear ho hl hr
    induction lvs with
    | nil => rfl
    | cons a l ih => rw [List.flatMap_cons, ← ih]; rfl
  have ho2 : w.ownsRow base T 1 v lvs.length (lvs.flatMap one1) := by rw [← e]; exact ho
  refine ⟨h63, ?_⟩
  rcases own_at (f := one1) (k := 1) (fun _ => rfl) ho2 with ⟨e0, rfl⟩ | ⟨g, cap, rfl, hcap, _, hg, H⟩
  · exact .inl ⟨List.eq_nil_of_length_eq_zero (by rw [← hl, e0]; rfl), none, 0, rfl⟩
  · refine .inr ⟨g, 0, cap, by rw [hl], by rw [← hl]; exact hcap, hg, fun j hj => ?_⟩
    have hj' : j < lvs.length := by rw [hl]; exact hj
    have hc := H j hj' 0 _ (by omega) rfl
    exact ⟨lvs[j]'hj', by simpa using hc, hr j hj' hj⟩
theorem one_of {lvs : List Value} {w : World} {B : Nat} {ps : List (List Rc)} (hl : lvs.length = ps.length) (hr : ∀ j (h1 : j < lvs.length) (h2 : j < ps.length), RecsAt w B (lvs[j]'h1) (ps[j]'h2)) : ∀ u ∈ lvs, u.oneCell' = true := by
  intro u hu
  obtain ⟨j, hj, rfl⟩ := List.getElem_of_mem hu
  obtain ⟨a, c, e⟩ := recs_end (hr j hj (by omega))
  rw [e]; rfl
set_option maxRecDepth 8000 in
set_option maxHeartbeats 2000000 in
theorem msw_walk (vx vl : Value) (zx zl : List Int) (kn ka : Int) (w : World) (h0 : IntsAt w w.heap.size vx zx) (h1 : IntsAt w w.heap.size vl zl) :
    Calls Try.prog 9 #[vx, vl, .int .i64 kn, .int .i64 ka] w fun e w' => e = .returned (.bool true) ∧ Below w.heap.size w w' := by
  obtain ⟨i0, hi, hz0, hz1, hz2⟩ := info_parts infoRcs
  have H0 := Lib.hid h0
  have H1 := Lib.hid h1
  obtain ⟨P, hP⟩ : ∃ P, pickI kn 6 = P := ⟨_, rfl⟩
  have hPb := pickI_bd kn (n := 6) (by omega)
  rw [hP] at hPb
  obtain ⟨N, hN⟩ : ∃ N : Nat, 1 + P = (N : Int) := ⟨(1 + P).toNat, by omega⟩
  have N1 : 1 ≤ N := by omega
  have N6 : N ≤ 6 := by omega
  have PK := Lib.hid (fun W => (by have q := pick_any kn 6 (by omega) (by omega) W; rw [hP] at q; exact q : Calls Try.prog 16 #[.int .i64 kn, .int .i64 6] W fun e w' => e = .returned (.int .i64 P) ∧ W = w'))
  clear h0 h1 hP
  go_enter Try.func9, Try.ntmps9
  go_upto_region 2 with (go_at_call 13; refine (keepSchema_any _ _ _ H0.out).mono ?_; rintro e w1 ⟨cv, cs, key, rfl, hc1, hs1, hl1, hb1⟩; obtain ⟨ca, cc, rfl⟩ := cols_end hc1; have HC1 := Lib.hid hc1; have SP := Lib.hid hs1; have HB1 := Lib.hid hb1; have I2 := Lib.hid ((H1.out.to fun k hk => hb1.block k hk).mono hb1.size); clear hc1 hs1 hl1 hb1)
  have NC : Hid (∃ nc, cs.length = nc) := Lib.hid ⟨_, rfl⟩
  obtain ⟨nc, hnc⟩ := NC.out
  rw [hnc] at HC1 ⊢
  clear hnc NC
  refine captureM ?_
  intro y ey
  have yb1 : Below w1.heap.size w1 y := by rw [ey]; exact (by repeat (first | with_reducible exact Below.refl _ _ | with_reducible assumption | with_reducible refine Below.al ?_ _ | with_reducible refine Below.on ?_ _ | with_reducible refine Below.st ?_ (by first | assumption | (simp; done) | (simp; omega)) _ | with_reducible refine Below.drew ?_))
  have d2 : y.cell? ⟨w1.heap.size, 0, none⟩ = some (.slice ca nc cc) := by rw [ey]; simp (maxDischargeDepth := 9) [go_sem, *]
  have d3 : y.cell? ⟨w1.heap.size, 1, none⟩ = some (.int .i64 key) := by rw [ey]; simp (maxDischargeDepth := 9) [go_sem, *]
  have dz : w1.heap.size < y.heap.size := by rw [ey]; simp
  have YB1 := Lib.hid (Below.to HB1.out yb1)
  have HC2 := Lib.hid (HC1.out.mono yb1 yb1.size)
  have I3 := Lib.hid ((I2.out.to fun k hk => yb1.block k hk).mono yb1.size)
  have SPP := schema_parts SP.out
  have KR := Lib.hid (keepRecs_any (.slice ca nc cc) cs key vl zl 12 y HC2.out I3.out (by decide) (by decide) SP.out SPP.1 SPP.2.2.1)
  obtain ⟨SB, hSB⟩ : ∃ b, w1.heap.size = b := ⟨_, rfl⟩
  rw [hSB] at d2 d3 dz ⊢
  clear ey yb1 hSB SPP
  go_upto_region 3 with (go_at_call 27; refine Calls.mono KR.out ?_; rintro e z ⟨v3, Z, rfl, hr3, hl3, ho3, hs3, hb3⟩; obtain ⟨ra, rc, rfl⟩ := recs_end hr3; have e2 := (hb3.cell (p := ⟨SB, 0, none⟩) dz).trans d2; have e3 := (hb3.cell (p := ⟨SB, 1, none⟩) dz).trans d3; have ez : SB < z.heap.size := Nat.lt_of_lt_of_le dz hb3.size; have HZ := Lib.hid hr3; have HS := Lib.hid (And.intro hl3 hs3); have HB3 := Lib.hid hb3; clear hr3 hl3 ho3 hs3 hb3)
  obtain ⟨L, hL⟩ : ∃ L, Z.length = L := ⟨_, rfl⟩
  have L12 : L ≤ 12 := by have := HS.out.1; omega
  have SPL := Lib.hid (refSplit_any _ Z (N : Int) z HZ.out (by omega) (by omega) (by omega))
  rw [hL] at SPL HZ ⊢
  have HL := Lib.hid hL
  clear hL d2 d3 dz
  go_upto_region 4 with (first | (go_at_call 16; refine Calls.mono (PK.out _) ?_; rintro e w4 ⟨rfl, rfl⟩) | (go_at_call 28; refine Calls.mono SPL.out ?_; rintro e z2 ⟨v4, ps, rfl, hp4, hr4, hb4⟩; rw [Int.toNat_natCast] at hp4; obtain ⟨pa, pc, rfl⟩ := parts_end hr4; have f2 := (hb4.cell (p := ⟨SB, 0, none⟩) ez).trans e2; have f3 := (hb4.cell (p := ⟨SB, 1, none⟩) ez).trans e3; have fz : SB < z2.heap.size := Nat.lt_of_lt_of_le ez hb4.size; have HP := Lib.hid hp4; have HR := Lib.hid hr4; have HB4 := Lib.hid hb4; clear hp4 hr4 hb4))
  clear e2 e3 ez
  obtain ⟨n, hn⟩ : ∃ n, ps.length = n := ⟨_, rfl⟩
  have n12 : n ≤ 12 := by have := partsOf_len N1 HP.out; have := HL.out; omega
  obtain ⟨KI, hKI⟩ : ∃ K, pickI ka ((n : Int) + 1) = K := ⟨_, rfl⟩
  have kbd := pickI_bd ka (n := (n : Int) + 1) (by omega)
  rw [hKI] at kbd
  obtain ⟨K, rfl⟩ : ∃ K : Nat, KI = (K : Int) := ⟨KI.toNat, by omega⟩
  have Kn : K ≤ n := by omega
  have Kn' : (K : Int) ≤ (n : Int) := by omega
  have PK2 := Lib.hid (fun W => (by have q := pick_any ka ((n : Int) + 1) (by omega) (by omega) W; rw [hKI] at q; exact q : Calls Try.prog 16 #[.int .i64 ka, .int .i64 ((n : Int) + 1)] W fun e w' => e = .returned (.int .i64 (K : Int)) ∧ W = w'))
  obtain ⟨lvs, l1, l2, l3⟩ := parts_row HR.out
  rw [hn] at HR l1 l3 ⊢
  have HN := Lib.hid hn
  have pcn : n ≤ pc := by
    rcases HR.out.2 with ⟨e, _⟩ | ⟨b, o, c, e, hc, _⟩
    · rw [e] at hn; simp at hn; omega
    · injection e with _ _ e; rw [hn] at hc; omega
  clear hKI kbd hn
  have RM := rot_merge SP.out N1 HS.out.2 (by have := HL.out; omega) HP.out K
  have LV := Lib.hid (And.intro l1 l2)
  have ONE := one_of (by rw [l1, HN.out]) l2
  -- the two parts as sources
  have V1 : Hid (∀ W : World, Below z2.heap.size z2 W → SrcRow W (.slice (if pc = K then pa else pa.map (·.add (K * 1))) (n - K) (pc - K)) (n - K) 1 (lvs.drop K)) := Lib.hid (fun W hb => by
    refine ⟨by rw [List.length_drop, l1]; omega, fun u hu => ONE u (List.mem_of_mem_drop hu), ?_⟩
    by_cases q : n - K = 0
    · exact .inl ⟨q, _, _, by rw [q]⟩
    · obtain ⟨b, o, c, e, hc, hb2, hcell⟩ := l3 (by omega)
      injection e with e1 e2 e3
      subst e1
      refine .inr ⟨⟨b, o + K, none⟩, pc - K, ?_, fun j u hj => ?_⟩
      · rw [if_neg (by omega)]
        simp [Addr.add]
        try omega
      · have hjl := (List.getElem?_eq_some_iff.1 hj).1
        rw [List.getElem?_drop] at hj
        have hj2 := (List.getElem?_eq_some_iff.1 hj)
        rw [add_nil]
        have := (hb.cell (p := ⟨b, o + (K + j), none⟩) hb2).trans (hcell (K + j) hj2.1)
        rw [hj2.2] at this
        rw [show o + K + j = o + (K + j) by omega]
        exact this)
  have V2 : Hid (∀ W : World, Below z2.heap.size z2 W → SrcRow W (.slice pa K pc) K 1 (lvs.take K)) := Lib.hid (fun W hb => by
    refine ⟨by rw [List.length_take, l1]; omega, fun u hu => ONE u (List.mem_of_mem_take hu), ?_⟩
    by_cases q : K = 0
    · exact .inl ⟨q, _, _, by rw [q]⟩
    · obtain ⟨b, o, c, e, hc, hb2, hcell⟩ := l3 (by omega)
      injection e with e1 e2 e3
      subst e1
      refine .inr ⟨⟨b, o, none⟩, pc, rfl, fun j u hj => ?_⟩
      have hjl := (List.getElem?_eq_some_iff.1 hj).1
      rw [List.length_take] at hjl
      rw [List.getElem?_take, if_pos (by omega)] at hj
      have hj2 := (List.getElem?_eq_some_iff.1 hj)
      rw [add_nil]
      have := (hb.cell (p := ⟨b, o + j, none⟩) hb2).trans (hcell j hj2.1)
      rw [hj2.2] at this
      exact this)
  have HCZ := Lib.hid ((HC2.out.mono HB3.out HB3.out.size).mono HB4.out HB4.out.size)
  have MC : Hid (∀ (W : World) (base : Nat) (v : Value), Below z2.heap.size z2 W → W.ownsRow base 22 1 v n (lvs.drop K ++ lvs.take K) → Calls Try.prog 10 #[.agg #[.slice ca nc cc, .int .i64 key], v] W fun e w' => ∃ a c, e = .returned (.tuple #[.slice a L c, .int .i64 0]) ∧ RecsAt w' w'.heap.size (.slice a L c) Z ∧ Below W.heap.size W w') := Lib.hid (fun W base v hb ho => by
    have hlen : (lvs.drop K ++ lvs.take K).length = n := by rw [List.length_append, List.length_drop, List.length_take, l1]; omega
    have hpl : (ps.drop K ++ ps.take K).length = n := by rw [List.length_append, List.length_drop, List.length_take, HN.out]; omega
    have PT : PartsAt W W.heap.size v (ps.drop K ++ ps.take K) := own_parts (base := base) (T := 22) (lvs := lvs.drop K ++ lvs.take K) (by rw [hlen]; exact ho) (by rw [hlen, hpl]) (by omega) (fun j h1 h2 => by
      have h1' : j < n := by rw [hlen] at h1; exact h1
      have key : ∀ i (q1 : i < lvs.length) (q2 : i < ps.length), RecsAt W W.heap.size (lvs[i]'q1) (ps[i]'q2) := fun i q1 q2 => (l2 i q1 q2).mono hb hb.size
      by_cases q : j < n - K
      · rw [List.getElem_append_left (by rw [List.length_drop, l1]; exact q), List.getElem_append_left (by rw [List.length_drop, HN.out]; exact q), List.getElem_drop, List.getElem_drop]
        exact key _ _ _
      · have e1 : (lvs.drop K).length = n - K := by rw [List.length_drop, l1]
        have e2 : (ps.drop K).length = n - K := by rw [List.length_drop, HN.out]
        rw [List.getElem_append_right (by omega), List.getElem_append_right (by omega), List.getElem_take, List.getElem_take]
        simp only [e1, e2]
        exact key _ _ _)
    refine Calls.mono (merge_any (.slice ca nc cc) cs key v _ W (HCZ.out.mono hb hb.size) PT) ?_
    rintro e w' ⟨v', rfl, hr, hb'⟩
    rw [RM.1]
    rw [RM.2] at hr
    obtain ⟨a, c, rfl⟩ := recs_end hr
    rw [HL.out] at hr ⊢
    exact ⟨a, c, rfl, hr, hb'⟩)
  have LL := Lib.hid (And.intro l1 ONE)
  clear l1 l2 l3 RM ONE
  go_upto_region 5 with (go_at_call 16; refine Calls.mono (PK2.out _) ?_; rintro e w5 ⟨rfl, rfl⟩)
  have pcn' : (n : Int) ≤ (pc : Int) := by omega
  have pck' : (K : Int) ≤ (pc : Int) := by omega
  have pck : K ≤ pc := by omega
  by_cases q : pc = K
  · subst pc
    have e0 : K = n := by omega
    subst e0
    have eD : lvs.drop K = [] := List.drop_of_length_le (by rw [LL.out.1]; omega)
    go_region_held3 (fun w' => w'.cell? ⟨SB, 0, none⟩ = some (.slice ca nc cc) ∧ w'.cell? ⟨SB, 1, none⟩ = some (.int .i64 key)) (first | exact ⟨by assumption, by assumption⟩ | (refine ⟨?_, ?_⟩ <;> simp (maxDischargeDepth := 9) [go_sem, *]))
      (first
        | (refine step_append_row_wide (by rfl) _ _ 31 (by rfl) z2.heap.size 22 i0 _ 1 24 Try.underlying31 hi hz0 hz1 hz2 rfl (by decide) (.slice none 0 0) 0 [] (by rfl) (World.ownsRow_nil _ _ _ _) _ 0 [] (by rfl) (by exact ⟨rfl, fun u hu => absurd hu (by simp), .inl ⟨rfl, _, _, rfl⟩⟩) (by unfold maxLen; omega) (by omega) (by simp) ?_; intro v7 w7 hown hgrow; have O7 : Hid (w7.ownsRow z2.heap.size 22 1 v7 0 (lvs.drop K)) := Lib.hid (by rw [eD]; simpa using hown); clear hown; have hown := O7.out; have G7 : Hid (Below z2.heap.size z2 w7) := Lib.hid (Below.gr (Below.refl _ _).drew (World.ownsRow_nil z2 _ 22 1) hgrow); obtain ⟨a7, c7, rfl⟩ := own_form hown; have q70 : w7.cell? ⟨SB, 0, none⟩ = some (.slice ca nc cc) := (G7.out.cell (p := ⟨SB, 0, none⟩) fz).trans f2; have q71 : w7.cell? ⟨SB, 1, none⟩ = some (.int .i64 key) := (G7.out.cell (p := ⟨SB, 1, none⟩) fz).trans f3; clear hown hgrow)
        | (refine step_append_row_wide (by rfl) _ _ 31 (by rfl) z2.heap.size 22 i0 _ 1 24 Try.underlying31 hi hz0 hz1 hz2 rfl (by decide) (.slice a7 0 c7) 0 (lvs.drop K) (by rfl) O7.out (.slice pa K K) K (lvs.take K) (by rfl) (V2.out w7 G7.out) (by unfold maxLen; omega) (by omega) (by have := G7.out.size; omega) ?_; intro v8 w8 hown hgrow; rw [Nat.zero_add] at hown; have O8 := Lib.hid hown; have G8 : Hid (Below z2.heap.size z2 w8) := Lib.hid (Below.gr G7.out O7.out hgrow); obtain ⟨a8, c8, rfl⟩ := own_form hown; have q80 : w8.cell? ⟨SB, 0, none⟩ = some (.slice ca nc cc) := (G8.out.cell (p := ⟨SB, 0, none⟩) fz).trans f2; have q81 : w8.cell? ⟨SB, 1, none⟩ = some (.int .i64 key) := (G8.out.cell (p := ⟨SB, 1, none⟩) fz).trans f3; clear hown hgrow)
        | (go_at_call 10; refine Calls.mono (MC.out _ _ _ G8.out O8.out) ?_; rintro e w9 ⟨a9, c9, rfl, hr9, hb9⟩; have R9 := Lib.hid hr9; have B9 : Hid (Below z2.heap.size z2 w9) := Lib.hid (Below.to G8.out hb9); have s0 : w9.cell? ⟨SB, 0, none⟩ = some (.slice ca nc cc) := (B9.out.cell (p := ⟨SB, 0, none⟩) fz).trans f2; have s1 : w9.cell? ⟨SB, 1, none⟩ = some (.int .i64 key) := (B9.out.cell (p := ⟨SB, 1, none⟩) fz).trans f3; clear hr9 hb9))
    have ZZ := Lib.hid (Below.to (Below.to (Below.to YB1.out HB3.out) HB4.out) B9.out)
    have RZ := Lib.hid (HZ.out.mono (Below.to HB4.out B9.out) (Below.to HB4.out B9.out).size)
    have ET := Lib.hid ((eqRs_iff Z Z).2 rfl)
    have yb := ZZ.out
    go_wp2_with (first
      | (go_at_call 17; refine Calls.mono (awake29 _) ?_; rintro e w11 ⟨rfl, hb11⟩; obtain ⟨x11, rfl⟩ := Ext.of hb11)
      | (go_at_call 26; refine Calls.mono (same_recs _ _ Z Z _ (R9.out.mono x11.below x11.below.size) (RZ.out.mono x11.below x11.below.size)) ?_; rintro e w12 ⟨rfl, hb12⟩; rw [ET.out]; obtain ⟨x12, rfl⟩ := Ext.of hb12))
    exact bodyPost_ret (v := .bool true) (by simp [results, Try.results9, go_sem, *]) rfl (⟨rfl, by repeat (first | with_reducible exact Below.refl _ _ | with_reducible assumption | with_reducible refine Below.al ?_ _ | with_reducible refine Below.on ?_ _ | with_reducible refine Below.st ?_ (by first | assumption | (simp; done) | (simp; omega)) _ | with_reducible refine Below.drew ?_)⟩)
  · have V1' : Hid (SrcRow z2.drew (.slice (Option.map (fun x => x.add K) pa) (n - K) (pc - K)) (n - K) 1 (lvs.drop K)) := Lib.hid (by
      have := V1.out z2.drew (Below.refl _ _).drew
      rw [if_neg q, Nat.mul_one] at this
      exact this)
    go_region_held3 (fun w' => w'.cell? ⟨SB, 0, none⟩ = some (.slice ca nc cc) ∧ w'.cell? ⟨SB, 1, none⟩ = some (.int .i64 key)) (first | exact ⟨by assumption, by assumption⟩ | (refine ⟨?_, ?_⟩ <;> simp (maxDischargeDepth := 9) [go_sem, *]))
      (first
        | (refine step_append_row_wide (by rfl) _ _ 31 (by rfl) z2.heap.size 22 i0 _ 1 24 Try.underlying31 hi hz0 hz1 hz2 rfl (by decide) (.slice none 0 0) 0 [] (by rfl) (World.ownsRow_nil _ _ _ _) (.slice (Option.map (fun x => x.add K) pa) (n - K) (pc - K)) (n - K) (lvs.drop K) (by rfl) V1'.out (by unfold maxLen; omega) (by omega) (by simp) ?_; intro v7 w7 hown hgrow; have O7 : Hid (w7.ownsRow z2.heap.size 22 1 v7 (n - K) (lvs.drop K)) := Lib.hid (by rw [Nat.zero_add, List.nil_append] at hown; exact hown); clear hown; have hown := O7.out; have G7 : Hid (Below z2.heap.size z2 w7) := Lib.hid (Below.gr (Below.refl _ _).drew (World.ownsRow_nil z2 _ 22 1) hgrow); obtain ⟨a7, c7, rfl⟩ := own_form hown; have q70 : w7.cell? ⟨SB, 0, none⟩ = some (.slice ca nc cc) := (G7.out.cell (p := ⟨SB, 0, none⟩) fz).trans f2; have q71 : w7.cell? ⟨SB, 1, none⟩ = some (.int .i64 key) := (G7.out.cell (p := ⟨SB, 1, none⟩) fz).trans f3; clear hown hgrow)
        | (refine step_append_row_wide (by rfl) _ _ 31 (by rfl) z2.heap.size 22 i0 _ 1 24 Try.underlying31 hi hz0 hz1 hz2 rfl (by decide) (.slice a7 (n - K) c7) (n - K) (lvs.drop K) (by rfl) O7.out (.slice pa K pc) K (lvs.take K) (by rfl) (V2.out w7 G7.out) (by unfold maxLen; omega) (by omega) (by have := G7.out.size; omega) ?_; intro v8 w8 hown hgrow; rw [show n - K + K = n by omega] at hown; have O8 := Lib.hid hown; have G8 : Hid (Below z2.heap.size z2 w8) := Lib.hid (Below.gr G7.out O7.out hgrow); obtain ⟨a8, c8, rfl⟩ := own_form hown; have q80 : w8.cell? ⟨SB, 0, none⟩ = some (.slice ca nc cc) := (G8.out.cell (p := ⟨SB, 0, none⟩) fz).trans f2; have q81 : w8.cell? ⟨SB, 1, none⟩ = some (.int .i64 key) := (G8.out.cell (p := ⟨SB, 1, none⟩) fz).trans f3; clear hown hgrow)
        | (go_at_call 10; refine Calls.mono (MC.out _ _ _ G8.out O8.out) ?_; rintro e w9 ⟨a9, c9, rfl, hr9, hb9⟩; have R9 := Lib.hid hr9; have B9 : Hid (Below z2.heap.size z2 w9) := Lib.hid (Below.to G8.out hb9); have s0 : w9.cell? ⟨SB, 0, none⟩ = some (.slice ca nc cc) := (B9.out.cell (p := ⟨SB, 0, none⟩) fz).trans f2; have s1 : w9.cell? ⟨SB, 1, none⟩ = some (.int .i64 key) := (B9.out.cell (p := ⟨SB, 1, none⟩) fz).trans f3; clear hr9 hb9))
    have ZZ := Lib.hid (Below.to (Below.to (Below.to YB1.out HB3.out) HB4.out) B9.out)
    have RZ := Lib.hid (HZ.out.mono (Below.to HB4.out B9.out) (Below.to HB4.out B9.out).size)
    have ET := Lib.hid ((eqRs_iff Z Z).2 rfl)
    have yb := ZZ.out
    go_wp2_with (first
      | (go_at_call 17; refine Calls.mono (awake29 _) ?_; rintro e w11 ⟨rfl, hb11⟩; obtain ⟨x11, rfl⟩ := Ext.of hb11)
      | (go_at_call 26; refine Calls.mono (same_recs _ _ Z Z _ (R9.out.mono x11.below x11.below.size) (RZ.out.mono x11.below x11.below.size)) ?_; rintro e w12 ⟨rfl, hb12⟩; rw [ET.out]; obtain ⟨x12, rfl⟩ := Ext.of hb12))
    exact bodyPost_ret (v := .bool true) (by simp [results, Try.results9, go_sem, *]) rfl (⟨rfl, by repeat (first | with_reducible exact Below.refl _ _ | with_reducible assumption | with_reducible refine Below.al ?_ _ | with_reducible refine Below.on ?_ _ | with_reducible refine Below.st ?_ (by first | assumption | (simp; done) | (simp; omega)) _ | with_reducible refine Below.drew ?_)⟩)
end Go.Proofs.Ytgooffpmiilicaa
