/-
  PARTS: batch.Split ('PartsOf'). Conditions: the records lie in memory; at most 2^42 of them, their rows of at most 2^42 values.
-/
import Derived.Test.YtkblkjfejaflkaaSpl
set_option linter.unusedVariables false
set_option linter.unusedSimpArgs false
namespace Go.Proofs.Ytkblkjfejaflkaa
open Go.RowKit Go.Shelf
attribute [local go_sem] Oper.semAt_some
theorem infoRcs : (Try.prog.info? 24).map (fun i => (i.zero, i.size, i.bytes)) = some (some (.slice none 0 0), 1, 24) := by kernel_rfl
def partF (rs : List Rc) (n i : Nat) : List Rc := (rs.drop i).take n
/-- The parts of n records each, the last one may be short. -/
def PartsOf (rs : List Rc) (n : Nat) (ps : List (List Rc)) : Prop := ∃ k, ps = (starts n k).map (partF rs n) ∧ rs.length ≤ k * n ∧ ∀ j, j < k → j * n < rs.length
/-- What Split leaves. -/
def SplPost (w : World) (rs : List Rc) (n : Nat) (e : Ending) (w' : World) : Prop := ∃ v lvs ps, e = .returned v ∧ PartsOf rs n ps ∧ PMem w.heap.size w' v lvs ps ∧ Below w.heap.size w w'
theorem part_recs {w : World} {B b off L c n i : Nat} {a : Option Addr} {rs : List Rc} (h : RecsAt w B (.slice a L c) rs) (hL : rs.length = L) (ha : L ≠ 0 → a = some ⟨b, off, none⟩) : RecsAt w B (partV b off n L i) (partF rs n i) := by
  subst hL
  have hl : (partF rs n i).length = min n (rs.length - i) := by simp [partF]
  refine ⟨by rw [hl]; have := h.1; omega, ?_⟩
  by_cases hi : i < rs.length
  · obtain rfl := ha (by omega)
    rcases h.2 with ⟨e, _⟩ | ⟨b', o', c', hv, hc, hb, hr⟩
    · subst e; exact absurd hi (by simp)
    · injection hv with e1 e2 e3
      injection e1 with e1
      injection e1 with e1 e4 e5
      subst e1 e4
      refine .inr ⟨b, off + i * 2, min n (rs.length - i), by unfold partV; rw [hl], by rw [hl]; exact Nat.le_refl _, hb, fun j hj => ?_⟩
      have hj' : i + j < rs.length := by rw [hl] at hj; omega
      have := hr (i + j) hj'
      have e : (partF rs n i)[j]'hj = rs[i + j]'hj' := by simp [partF]
      rw [e, show off + i * 2 + j * 2 = off + (i + j) * 2 by omega]
      exact this
  · refine .inl ⟨List.eq_nil_of_length_eq_zero (by rw [hl]; omega), some ⟨b, off + i * 2, none⟩, 0, ?_⟩
    unfold partV
    rw [show min n (rs.length - i) = 0 by omega]
theorem own_sl {w : World} {base : Nat} {e : TypeId} {size : Nat} {v : Value} {n : Nat} {xs : List Value} (h : w.ownsRow base e size v n xs) : ∃ a c, v = .slice a n c := by
  rcases h.2 with ⟨rfl, rfl⟩ | ⟨g, cap, cur, rfl, _⟩
  · exact ⟨_, _, rfl⟩
  · exact ⟨_, _, rfl⟩
theorem vals_cells {w w' : World} {B : Nat} {v : Value} {l : List Val} (h : ValsAt w B v l) (hk : ∀ p u, w.cell? p = some u → w'.cell? p = some u) : ValsAt w' B v l :=
  ⟨h.1, h.2.imp id fun ⟨b, o, c, e, h2, h3, h4⟩ => ⟨b, o, c, e, h2, h3, fun j hj => ⟨hk _ _ (h4 j hj).1, hk _ _ (h4 j hj).2.1, hk _ _ (h4 j hj).2.2⟩⟩⟩
theorem own_turn {X Y : World} {row : Option Nat} {base : Nat} {e : TypeId} {size : Nat} {v : Value} {n : Nat} {xs : List Value} (h : X.ownsRow base e size v n xs) (hg : X.grownBy Y row) (hr : ∀ r, row = some r → ∃ o : Obj, X.heap[r]? = some o ∧ o.isCells = false) : Y.ownsRow base e size v n xs := by
  refine h.kept hg ?_
  rcases h.2 with ⟨rfl, _⟩ | ⟨g, cap, cur, rfl, _, hgb, _⟩
  · exact .inl rfl
  · refine .inr fun e' => ?_
    obtain ⟨o, ho, hc⟩ := hr g (by simpa [Value.ownBlock] using e'.symm)
    rw [hgb] at ho; cases ho; cases hc
theorem PMem.turn {B0 : Nat} {X Y : World} {row : Option Nat} {v : Value} {lvs : List Value} {ps : List (List Rc)} (h : PMem B0 X v lvs ps) (hg : X.grownBy Y row) (hr : ∀ r, row = some r → ∃ o : Obj, X.heap[r]? = some o ∧ o.isCells = false) : PMem B0 Y v lvs ps := by
  refine ⟨own_turn h.own hg hr, h.len, fun j h1 h2 => ?_⟩
  obtain ⟨qs, a1, a2, a3, a4⟩ := h.inn j h1 h2
  refine ⟨qs, own_turn a1 hg hr, ⟨a2.1, fun i hi hi' => ?_⟩, fun k hk => ⟨(a3 k hk).1, Nat.lt_of_lt_of_le (a3 k hk).2.1 hg.size, (a3 k hk).2.2⟩, a4⟩
  obtain ⟨b1, b2, b3⟩ := a2.2 i hi hi'
  exact ⟨b1, (vals_cells b2 fun p u hp => cell_kept hp hg hr).up hg.size, fun k hk => ⟨(b3 k hk).1, Nat.lt_of_lt_of_le (b3 k hk).2.1 hg.size, (b3 k hk).2.2⟩⟩
theorem stepIn_append_row {F : Fence} {n : Nat} {P : Program} {w : World} {ops : Array Oper} {o : Oper} {a : Act} {K : Act → World → Prop} {Q : Exit → Act → World → Prop} {E : Prop} (hgd : o.guard = none) (s x : Operand) (t : TypeId)
    (ho : o.op = .call { callee := .builtin .append, args := #[s, x], argTypes := #[t, t] })
    (base : Nat) (e : TypeId) (i : TypeInfo) (z : Value) (size bytes : Nat) (ht : P.underlying t = some (.slice e)) (hi : P.info? e = some i) (hz : i.zero = some z) (hsize : i.size = size) (hby : i.bytes = bytes) (hzs : z.cells.size = size) (hsz : 0 < size)
    (v : Value) (k : Nat) (xs : List Value) (hs : a.eval s = v) (hown : w.ownsRow base e size v k xs) (xv : Value) (m : Nat) (news : List Value) (hxv : a.eval x = xv) (hx : SrcRow w xv m size news) (h63 : k + m ≤ maxLen) (hbytes : (k + m) * bytes ≤ 140737488355328) (hbase : base ≤ w.heap.size)
    (h : ∀ v' w', w'.ownsRow base e size v' (k + m) (xs ++ news) → w.grownBy w' v.ownBlock → (v'.ownBlock = v.ownBlock ∨ v'.ownBlock = some w.heap.size) → K (a.put o.dst v') w') :
    if Region.wanted o (yielded ops a.tmps) = true then Oper.wpIn F n P o a w K Q else E := by
  have hw : Region.wanted o (yielded ops a.tmps) = true := by simp [Region.wanted, hgd]
  rw [if_pos hw]
  obtain ⟨v', w', hr, h2, h3, h4⟩ := run_append_row (P := P) base t o.type e i z size bytes ht hi hz hsize hby hzs hsz v k xs hown xv m news hx h63 hbytes hbase
  unfold Oper.wpIn
  refine ⟨?_, ?_⟩
  · simp [Oper.about, ho, resolve, Target.leads, Sem.run_pure]
  · rw [Oper.semAt_plain F _ _ (by rw [ho]; intro c hc'; cases hc')]
    simp [execOp, ho, resolve, invoke, builtin, hs, hxv, hr, Result.andThen]
    exact h v' w' h2 h3 h4
theorem PMem.blk {B0 : Nat} {W : World} {v : Value} {lvs : List Value} {ps : List (List Rc)} (h : PMem B0 W v lvs ps) : ∀ k, v.ownBlock = some k → B0 ≤ k ∧ k < W.heap.size ∧ ∃ o, W.heap[k]? = some o ∧ o.isCells = true := by
  intro k hk
  have h1 := own_base h.own k hk
  rcases h.own.2 with ⟨rfl, _⟩ | ⟨b, cap, cur, rfl, _, hb, _⟩
  · simp [Value.ownBlock] at hk
  · obtain rfl : b = k := by simpa [Value.ownBlock] using hk
    exact ⟨h1, (Array.getElem?_eq_some_iff.1 hb).1, _, hb, rfl⟩
theorem PMem.base {B0 B1 : Nat} {W : World} {v : Value} {lvs : List Value} {ps : List (List Rc)} (h : PMem B0 W v lvs ps) (hb : B1 ≤ B0) : PMem B1 W v lvs ps := by
  refine ⟨own_baseM h.own hb, h.len, fun j h1 h2 => ?_⟩
  obtain ⟨qs, a1, a2, a3, a4⟩ := h.inn j h1 h2
  refine ⟨qs, own_baseM a1 hb, ⟨a2.1, fun i hi hi' => ?_⟩, fun k hk => ⟨Nat.le_trans hb (a3 k hk).1, (a3 k hk).2⟩, a4⟩
  obtain ⟨b1, b2, b3⟩ := a2.2 i hi hi'
  exact ⟨b1, b2, fun k hk => ⟨Nat.le_trans hb (b3 k hk).1, (b3 k hk).2⟩⟩
theorem split_step {w W w2 w1 : World} {v v' lv : Value} {lvs : List Value} {ps : List (List Rc)} {qs : List (Int × Value)} {part : List Rc} {tmp : Obj} (hv : Boxed W w.heap.size 22 v) (hP : PMem (w.heap.size + 3) W v lvs ps) (hz : w.heap.size + 3 ≤ W.heap.size) (hB : Below w.heap.size w W) (hM : OwnMem W.drew w2 lv qs part)
    (ho : w1.ownsRow (w.heap.size + 3) 24 1 v' (lvs.length + 1) (lvs ++ [lv])) (hg : (w2.alloc tmp).grownBy w1 v.ownBlock) (ha : v'.ownBlock = v.ownBlock ∨ v'.ownBlock = some (w2.alloc tmp).heap.size) :
    Boxed w1 w.heap.size 22 v ∧ KeepsFrom (w.heap.size + 3) W (w1.setCell ⟨w.heap.size, 0, none⟩ v') ∧ KpC w.heap.size (w.heap.size + 1) (w.heap.size + 2) W (w1.setCell ⟨w.heap.size, 0, none⟩ v') ∧
      (∃ v2 lvs2, Boxed (w1.setCell ⟨w.heap.size, 0, none⟩ v') w.heap.size 22 v2 ∧ PMem (w.heap.size + 3) (w1.setCell ⟨w.heap.size, 0, none⟩ v') v2 lvs2 (ps ++ [part]) ∧ w.heap.size + 3 ≤ (w1.setCell ⟨w.heap.size, 0, none⟩ v').heap.size) ∧ Below w.heap.size w (w1.setCell ⟨w.heap.size, 0, none⟩ v') := by
  have b2 : Below W.heap.size W w2 := ⟨hM.below.os, hM.below.tape, hM.below.output, hM.below.size, hM.below.block⟩
  have b3 : Below W.heap.size W (w2.alloc tmp) := b2.alloc b2.size tmp
  have hvb := hP.blk
  have hv3 : Boxed (w2.alloc tmp) w.heap.size 22 v := (b3.block _ hv.lt).trans hv
  have hv1 : Boxed w1 w.heap.size 22 v := hv3.kept hg (fun e => by have := (hvb _ e.symm).1; omega)
  have hP3 : PMem (w.heap.size + 3) (w2.alloc tmp) v lvs ps := hP.keep (fun k _ hk => b3.block k hk) b3.size
  have hp2 : PartIn (w.heap.size + 3) w2 v.ownBlock lv part := hM.part hz v.ownBlock (fun k hk => (hvb k hk).2.1)
  have hp3 : PartIn (w.heap.size + 3) (w2.alloc tmp) v.ownBlock lv part := hp2.keep (fun k _ hk _ => Below.heap_alloc _ _ _ hk) (by simp) (fun _ _ _ q => q)
  have hP1 := hP3.snoc hp3 hg ho ha
  have hS : Mv (fun k => k = w.heap.size ∨ v.ownBlock = some k) W (w1.setCell ⟨w.heap.size, 0, none⟩ v') := by
    refine Mv.st ?_ (.inl (.inl rfl)) v'
    exact (Mv.of_below b3).trans ⟨hg.os, hg.tape, hg.output, hg.size, fun k hk hn => hg.block k hk (fun e => hn (.inr e.symm))⟩
  have hP4 : PMem (w.heap.size + 3) (w1.setCell ⟨w.heap.size, 0, none⟩ v') v' (lvs ++ [lv]) (ps ++ [part]) := hP1.keep (fun k hk _ => Below.heap_setCell _ _ _ k (fun e => by have : k = w.heap.size := e; omega)) (by simp)
  refine ⟨hv1, ⟨hS.size, fun k o hk h1 h2 => (hS.block k (Array.getElem?_eq_some_iff.1 h1).1 (fun q => ?_)).trans h1⟩, ⟨⟨hS.os, hS.tape, hS.output, hS.size, fun k hk => hS.block k (by omega) (fun q => ?_)⟩, hS.cell 0 (by omega) (fun q => ?_), hS.cell 0 (by omega) (fun q => ?_)⟩, ⟨v', _, hv1.set v', hP4, by have := hS.size; omega⟩, ?_⟩
  · rcases q with q | q
    · omega
    · obtain ⟨_, _, o', e1, e2⟩ := hvb k q
      rw [h1] at e1; cases e1; rw [h2] at e2; cases e2
  · rcases q with q | q
    · omega
    · have := (hvb k q).1; omega
  · rcases q with q | q
    · omega
    · have := (hvb _ q).1; omega
  · rcases q with q | q
    · omega
    · have := (hvb _ q).1; omega
  · exact hS.below hB (fun k hk => by rcases hk with q | q; omega; have := (hvb k q).1; omega)
set_option maxRecDepth 100000 in
set_option maxHeartbeats 1000000 in
theorem split_any (v : Value) (rs : List Rc) (n : Int) (w : World) (h : RecsAt w w.heap.size v rs) (hb : rs.length ≤ 4398046511104) (hr : ∀ r ∈ rs, r.row.length ≤ 4398046511104) (hn : 1 ≤ n) (hn63 : n ≤ 9223372036854775807) :
    Calls Try.prog 12 #[v, .int .i64 n] w (SplPost w rs n.toNat) := by
  obtain ⟨N, rfl⟩ : ∃ N : Nat, n = (N : Int) := ⟨n.toNat, by omega⟩
  rw [Int.toNat_natCast]
  obtain ⟨i0, hi, hz0, hz1, hz2⟩ := info_parts infoRcs
  obtain ⟨a, c, rfl⟩ := recs_end h
  obtain ⟨b, off, hcap, ha⟩ : ∃ b off, rs.length ≤ max c rs.length ∧ (rs.length ≠ 0 → a = some ⟨b, off, none⟩ ∧ rs.length ≤ c) := by
    by_cases e : rs.length = 0
    · exact ⟨0, 0, by omega, fun q => absurd e q⟩
    · obtain ⟨b, o, ha, hc, _⟩ := recs_in h (i := 0) (by omega)
      exact ⟨b, o, by omega, fun _ => ⟨ha, hc⟩⟩
  have HA := Lib.hid ha
  have HR := Lib.hid h
  have HRR := Lib.hid hr
  have t : ¬ ((N : Int) < 1) := by omega
  obtain ⟨L, hL⟩ : ∃ L, rs.length = L := ⟨_, rfl⟩
  rw [hL] at hb HR HA ⊢
  have HL := Lib.hid hL
  clear ha h hr hcap hL
  refine (callsIn_wide (n := 6)).1 ?_
  refine callsIn_of_wp_marks Try.func12 rfl trivial ?_ rfl
  simp only [Try.ntmps12, List.size_toArray, List.length_cons, List.length_nil, Nat.reduceAdd, Nat.reduceSub, Array.replicate_succ, Array.replicate_zero, List.push_toArray, List.append_toArray, List.nil_append, List.cons_append]
  gi_wp2_with (refine ⟨trivial, ?_⟩; gi_at_call 37; refine (chunk_any _ _ _ _ N (by omega) _).mono ?_; rintro e w' ⟨rfl, rfl⟩)
  have bO := Boxed.new w 22 (.slice none 0 0)
  have bS := Boxed.new (w.alloc (.cells #[.slice none 0 0] 22)) 24 (.slice a L c)
  have bN := Boxed.new ((w.alloc (.cells #[.slice none 0 0] 22)).alloc (.cells #[.slice a L c] 24)) 3 (.int .i64 (N : Int))
  simp only [World.size_alloc] at bS bN
  have hB0 : Below w.heap.size w (((w.alloc (.cells #[.slice none 0 0] 22)).alloc (.cells #[.slice a L c] 24)).alloc (.cells #[.int .i64 (N : Int)] 3)) := (((Below.refl _ w).alloc (Nat.le_refl _) _).alloc (by simp) _).alloc (by simp; omega) _
  have hz : (((w.alloc (.cells #[.slice none 0 0] 22)).alloc (.cells #[.slice a L c] 24)).alloc (.cells #[.int .i64 (N : Int)] 3)).heap.size = w.heap.size + 3 := by simp
  have bO' := (bO.alloc (.cells #[.slice a L c] 24)).alloc (.cells #[.int .i64 (N : Int)] 3)
  have bS' := bS.alloc (.cells #[.int .i64 (N : Int)] 3)
  by_cases hL0 : L = 0 ∨ L ≤ c
  · refine wpIn_rangeFunc_ownG rfl (by omega) (gf := 58) (lb := #[.pointer (some ⟨w.heap.size + 1, 0, none⟩), .pointer (some ⟨w.heap.size + 2, 0, none⟩)]) rfl trivial (enters_of Try.func58 (by kernel_rfl) rfl)
      (chunk_stops 5 (by omega) (w.heap.size + 1) (w.heap.size + 2) w.heap.size b off L c N a (fun q => (HA.out q).1) (by omega) (by omega) hb (by omega) _ (by rw [hz]; omega) (by rw [hz]; omega) bS'.cell bN.cell)
      (fun h k => KpC.trans h k) ?hKb (Below.refl _ _) (fun _ => rfl)
      (fun pre W => (∃ v lvs, Boxed W w.heap.size 22 v ∧ PMem (w.heap.size + 3) W v lvs (pre.map (partF rs N)) ∧ w.heap.size + 3 ≤ W.heap.size) ∧ Below w.heap.size w W)
      (fun _ _ _ => False) ?hI (fun _ _ _ _ _ hs _ _ => hs) ⟨⟨_, [], bO', PMem.nil _ _, Nat.le_of_eq hz.symm⟩, hB0⟩
      (fun x => { tmps := #[.slice a L c, .int .i64 (N : Int), undef, undef, .slice none 0 0, .pointer (some ⟨w.heap.size, 0, none⟩), partV b off N L x, .int .i64 (N : Int), .bool false, .slice a L c, .int .i64 (N : Int), .func (.func 58) #[] #[.pointer (some ⟨w.heap.size + 1, 0, none⟩), .pointer (some ⟨w.heap.size + 2, 0, none⟩)], partV b off N L x, undef, undef, undef, undef, undef, undef], defers := [] }) ?assign ?body ?done ?stop
    case hKb =>
      intro W l o o' hl h ho hw
      have k := belowK_b (Nat.le_refl _) W l o o' hl h ho hw
      exact ⟨k.mono (by rw [hz]; omega), k.cell (p := ⟨w.heap.size + 1, 0, none⟩) (by rw [hz]; show w.heap.size + 1 < _; omega), k.cell (p := ⟨w.heap.size + 2, 0, none⟩) (by rw [hz]; show w.heap.size + 2 < _; omega)⟩
    case hI =>
      rw [hz]
      refine OwnFrom.and ?_ (ownFrom_below (Nat.le_refl _) (by omega))
      rintro pre X Y row ⟨v, lvs, hv, hP, hz3⟩ hg hr
      exact ⟨v, lvs, hv.kept hg (fun e => by have := (hr _ e.symm).1; omega), hP.turn hg (fun r e => (hr r e).2), Nat.le_trans hz3 hg.size⟩
    case assign =>
      intro l x W K hK
      gi_wp2
      exact hK
    case body =>
      rintro l pre x W ⟨⟨v, lvs, hv, hP, hz3⟩, hB⟩ hlt
      have hc := hv.cell
      have hmx : Try.prog.follows .mixedOrders = true := by kernel_rfl
      have PR := Lib.hid (part_recs (n := N) (i := x) (HR.out.mono hB hB.size) HL.out (fun q => (HA.out q).1))
      have OC : Hid (Calls Try.prog 38 #[partV b off N L x] W.drew (OwnPost W.drew (partF rs N x))) := Lib.hid (own_any _ _ _ (PR.out.mono (Below.refl _ _).drew (Nat.le_refl _)) (by have := HL.out; simp [partF]; omega) (fun r hr => HRR.out r ((List.drop_subset _ _) ((List.take_subset _ _) hr))))
      have HV := Lib.hid hv
      have HPM := Lib.hid hP
      have HBB := Lib.hid hB
      clear hv hP hB
      gi_wp2
      refine wpIn_region_any (by assumption) ?_
      change wpAnyIn _ _ _ _ _ _ _ _ _ (World.drew _)
      refine wpAnyIn_ready (rs := [0, 1]) (by kernel_rfl) (by simp) ?_
      refine AllReadyIn.cons rfl (fun K hK => ?_) (AllReadyIn.cons rfl (fun K hK => ?_) AllReadyIn.nil)
      · go_simp; refine hK _ _ ?_; clear hK K
        refine wpAnyIn_ready (rs := [1]) (by kernel_rfl) (by simp) ?_; refine AllReadyIn.cons rfl (fun K hK => ?_) AllReadyIn.nil; go_simp; refine hK _ _ ?_; clear hK K
        refine wpAnyIn_ready (rs := [2]) (by kernel_rfl) (by simp) ?_; refine AllReadyIn.cons rfl (fun K hK => ?_) AllReadyIn.nil; go_simp; refine ⟨trivial, ?_⟩; refine (CallsIn.inRound l (callsIn_wide.2 OC.out)).mono ?_; rintro e w2 ⟨v1, ps1, rfl, M⟩; obtain ⟨a1, c1, rfl⟩ := own_sl M.own; have HM := Lib.hid M; have HM2 : Hid (Below W.heap.size W w2) := Lib.hid ⟨M.below.os, M.below.tape, M.below.output, M.below.size, M.below.block⟩; have hlt2 : w.heap.size < w2.heap.size := Nat.lt_of_lt_of_le HV.out.lt M.below.size; clear M; have hc2 : w2.cell? ⟨w.heap.size, 0, none⟩ = some v := (HM.out.below.cell (p := ⟨w.heap.size, 0, none⟩) (by have := HV.out.lt; exact this)).trans hc; refine hK _ _ ?_; clear hK K
        refine wpAnyIn_ready (rs := [3]) (by kernel_rfl) (by simp) ?_; refine AllReadyIn.cons rfl (fun K hK => ?_) AllReadyIn.nil; go_simp; refine hK _ _ ?_; clear hK K
        refine wpAnyIn_ready (rs := [4]) (by kernel_rfl) (by simp) ?_; refine AllReadyIn.cons rfl (fun K hK => ?_) AllReadyIn.nil; refine stepIn_append_row rfl (.tmp 13) (.tmp 16) 22 rfl (w.heap.size + 3) 24 i0 _ 1 24 Try.underlying22 hi hz0 hz1 hz2 rfl (by decide) v lvs.length lvs rfl (own_to HPM.out.own (HM2.out.alloc HM2.out.size _)) _ 1 [.slice a1 ps1.length c1] rfl ⟨rfl, (by simp [Value.oneCell']), .inr ⟨_, _, rfl, cell_one_new _ _ _⟩⟩ (by have := HPM.out.len; simp at this; unfold maxLen; omega) (by have := HPM.out.len; simp at this; omega) (by have := HM.out.below.size; simp; have e : W.drew.heap.size = W.heap.size := rfl; omega) ?_; intro v' w3 ho hg ha; obtain ⟨g3, c3, rfl⟩ := ownsRow_succ ho; have FIN := Lib.hid (split_step HV.out HPM.out hz3 HBB.out HM.out ho hg ha); have hc3 := FIN.out.1.cell; have hf3 := FIN.out.1.frozen; clear ho hg ha; refine hK _ _ ?_; clear hK K; refine wpAnyIn_ready (rs := [5]) (by kernel_rfl) (by simp) ?_; refine AllReadyIn.cons rfl (fun K hK => ?_) AllReadyIn.nil; go_simp; refine hK _ _ ?_; clear hK K; refine wpAnyIn_done (by kernel_rfl) ?_ _; exact ⟨(by rw [hz]; exact FIN.out.2.1), FIN.out.2.2.1, (by simpa using FIN.out.2.2.2.1), FIN.out.2.2.2.2⟩
      · go_simp; refine hK _ _ ?_; clear hK K
        refine wpAnyIn_ready (rs := [0, 2]) (by kernel_rfl) (by simp) ?_
        refine AllReadyIn.cons rfl (fun K hK => ?_) (AllReadyIn.cons rfl (fun K hK => ?_) AllReadyIn.nil)
        · go_simp; refine hK _ _ ?_; clear hK K
          refine wpAnyIn_ready (rs := [2]) (by kernel_rfl) (by simp) ?_; refine AllReadyIn.cons rfl (fun K hK => ?_) AllReadyIn.nil; go_simp; refine ⟨trivial, ?_⟩; refine (CallsIn.inRound l (callsIn_wide.2 OC.out)).mono ?_; rintro e w2 ⟨v1, ps1, rfl, M⟩; obtain ⟨a1, c1, rfl⟩ := own_sl M.own; have HM := Lib.hid M; have HM2 : Hid (Below W.heap.size W w2) := Lib.hid ⟨M.below.os, M.below.tape, M.below.output, M.below.size, M.below.block⟩; have hlt2 : w.heap.size < w2.heap.size := Nat.lt_of_lt_of_le HV.out.lt M.below.size; clear M; have hc2 : w2.cell? ⟨w.heap.size, 0, none⟩ = some v := (HM.out.below.cell (p := ⟨w.heap.size, 0, none⟩) (by have := HV.out.lt; exact this)).trans hc; refine hK _ _ ?_; clear hK K
          refine wpAnyIn_ready (rs := [3]) (by kernel_rfl) (by simp) ?_; refine AllReadyIn.cons rfl (fun K hK => ?_) AllReadyIn.nil; go_simp; refine hK _ _ ?_; clear hK K
          refine wpAnyIn_ready (rs := [4]) (by kernel_rfl) (by simp) ?_; refine AllReadyIn.cons rfl (fun K hK => ?_) AllReadyIn.nil; refine stepIn_append_row rfl (.tmp 13) (.tmp 16) 22 rfl (w.heap.size + 3) 24 i0 _ 1 24 Try.underlying22 hi hz0 hz1 hz2 rfl (by decide) v lvs.length lvs rfl (own_to HPM.out.own (HM2.out.alloc HM2.out.size _)) _ 1 [.slice a1 ps1.length c1] rfl ⟨rfl, (by simp [Value.oneCell']), .inr ⟨_, _, rfl, cell_one_new _ _ _⟩⟩ (by have := HPM.out.len; simp at this; unfold maxLen; omega) (by have := HPM.out.len; simp at this; omega) (by have := HM.out.below.size; simp; have e : W.drew.heap.size = W.heap.size := rfl; omega) ?_; intro v' w3 ho hg ha; obtain ⟨g3, c3, rfl⟩ := ownsRow_succ ho; have FIN := Lib.hid (split_step HV.out HPM.out hz3 HBB.out HM.out ho hg ha); have hc3 := FIN.out.1.cell; have hf3 := FIN.out.1.frozen; clear ho hg ha; refine hK _ _ ?_; clear hK K; refine wpAnyIn_ready (rs := [5]) (by kernel_rfl) (by simp) ?_; refine AllReadyIn.cons rfl (fun K hK => ?_) AllReadyIn.nil; go_simp; refine hK _ _ ?_; clear hK K; refine wpAnyIn_done (by kernel_rfl) ?_ _; exact ⟨(by rw [hz]; exact FIN.out.2.1), FIN.out.2.2.1, (by simpa using FIN.out.2.2.2.1), FIN.out.2.2.2.2⟩
        · go_simp; refine ⟨trivial, ?_⟩; refine (CallsIn.inRound l (callsIn_wide.2 OC.out)).mono ?_; rintro e w2 ⟨v1, ps1, rfl, M⟩; obtain ⟨a1, c1, rfl⟩ := own_sl M.own; have HM := Lib.hid M; have HM2 : Hid (Below W.heap.size W w2) := Lib.hid ⟨M.below.os, M.below.tape, M.below.output, M.below.size, M.below.block⟩; have hlt2 : w.heap.size < w2.heap.size := Nat.lt_of_lt_of_le HV.out.lt M.below.size; clear M; have hc2 : w2.cell? ⟨w.heap.size, 0, none⟩ = some v := (HM.out.below.cell (p := ⟨w.heap.size, 0, none⟩) (by have := HV.out.lt; exact this)).trans hc; refine hK _ _ ?_; clear hK K
          refine wpAnyIn_ready (rs := [0, 3]) (by kernel_rfl) (by simp) ?_
          refine AllReadyIn.cons rfl (fun K hK => ?_) (AllReadyIn.cons rfl (fun K hK => ?_) AllReadyIn.nil)
          · go_simp; refine hK _ _ ?_; clear hK K
            refine wpAnyIn_ready (rs := [3]) (by kernel_rfl) (by simp) ?_; refine AllReadyIn.cons rfl (fun K hK => ?_) AllReadyIn.nil; go_simp; refine hK _ _ ?_; clear hK K
            refine wpAnyIn_ready (rs := [4]) (by kernel_rfl) (by simp) ?_; refine AllReadyIn.cons rfl (fun K hK => ?_) AllReadyIn.nil; refine stepIn_append_row rfl (.tmp 13) (.tmp 16) 22 rfl (w.heap.size + 3) 24 i0 _ 1 24 Try.underlying22 hi hz0 hz1 hz2 rfl (by decide) v lvs.length lvs rfl (own_to HPM.out.own (HM2.out.alloc HM2.out.size _)) _ 1 [.slice a1 ps1.length c1] rfl ⟨rfl, (by simp [Value.oneCell']), .inr ⟨_, _, rfl, cell_one_new _ _ _⟩⟩ (by have := HPM.out.len; simp at this; unfold maxLen; omega) (by have := HPM.out.len; simp at this; omega) (by have := HM.out.below.size; simp; have e : W.drew.heap.size = W.heap.size := rfl; omega) ?_; intro v' w3 ho hg ha; obtain ⟨g3, c3, rfl⟩ := ownsRow_succ ho; have FIN := Lib.hid (split_step HV.out HPM.out hz3 HBB.out HM.out ho hg ha); have hc3 := FIN.out.1.cell; have hf3 := FIN.out.1.frozen; clear ho hg ha; refine hK _ _ ?_; clear hK K; refine wpAnyIn_ready (rs := [5]) (by kernel_rfl) (by simp) ?_; refine AllReadyIn.cons rfl (fun K hK => ?_) AllReadyIn.nil; go_simp; refine hK _ _ ?_; clear hK K; refine wpAnyIn_done (by kernel_rfl) ?_ _; exact ⟨(by rw [hz]; exact FIN.out.2.1), FIN.out.2.2.1, (by simpa using FIN.out.2.2.2.1), FIN.out.2.2.2.2⟩
          · go_simp; refine hK _ _ ?_; clear hK K
            refine wpAnyIn_ready (rs := [0]) (by kernel_rfl) (by simp) ?_; refine AllReadyIn.cons rfl (fun K hK => ?_) AllReadyIn.nil; go_simp; refine hK _ _ ?_; clear hK K
            refine wpAnyIn_ready (rs := [4]) (by kernel_rfl) (by simp) ?_; refine AllReadyIn.cons rfl (fun K hK => ?_) AllReadyIn.nil; refine stepIn_append_row rfl (.tmp 13) (.tmp 16) 22 rfl (w.heap.size + 3) 24 i0 _ 1 24 Try.underlying22 hi hz0 hz1 hz2 rfl (by decide) v lvs.length lvs rfl (own_to HPM.out.own (HM2.out.alloc HM2.out.size _)) _ 1 [.slice a1 ps1.length c1] rfl ⟨rfl, (by simp [Value.oneCell']), .inr ⟨_, _, rfl, cell_one_new _ _ _⟩⟩ (by have := HPM.out.len; simp at this; unfold maxLen; omega) (by have := HPM.out.len; simp at this; omega) (by have := HM.out.below.size; simp; have e : W.drew.heap.size = W.heap.size := rfl; omega) ?_; intro v' w3 ho hg ha; obtain ⟨g3, c3, rfl⟩ := ownsRow_succ ho; have FIN := Lib.hid (split_step HV.out HPM.out hz3 HBB.out HM.out ho hg ha); have hc3 := FIN.out.1.cell; have hf3 := FIN.out.1.frozen; clear ho hg ha; refine hK _ _ ?_; clear hK K; refine wpAnyIn_ready (rs := [5]) (by kernel_rfl) (by simp) ?_; refine AllReadyIn.cons rfl (fun K hK => ?_) AllReadyIn.nil; go_simp; refine hK _ _ ?_; clear hK K; refine wpAnyIn_done (by kernel_rfl) ?_ _; exact ⟨(by rw [hz]; exact FIN.out.2.1), FIN.out.2.2.1, (by simpa using FIN.out.2.2.2.1), FIN.out.2.2.2.2⟩
    case done =>
      rintro D ys W hD ⟨k, rfl, hk1, hk2⟩ ⟨⟨v, lvs, hv, hP, hz3⟩, hB⟩ hK
      have hc := hv.cell
      have HPM := Lib.hid hP
      clear hP
      gi_wp2
      refine ⟨by simp, .inl ⟨_, _, rfl, run_takeDeferred hK, ?_⟩⟩
      exact ⟨_, results_tmp rfl _ _ _, v, lvs, _, rfl, ⟨k, rfl, by rw [HL.out]; exact hk1, by rw [HL.out]; exact hk2⟩, ((HPM.out.turn (grownBy_putObj' W D _) (fun r e => by cases e; exact ⟨_, hK, rfl⟩)).base (by omega)), hB.trans (belowK_b (w := w) (Nat.le_refl _) W D _ _ (by rw [hz] at hD; omega) hK rfl rfl)⟩
    case stop =>
      rintro D c pre W _ _ h _
      exact h.elim
  · exact absurd (HA.out (by omega)).2 (by omega)
end Go.Proofs.Ytkblkjfejaflkaa
