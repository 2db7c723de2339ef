/-
  Merge's two loops over the heads: their states. Conditions: each theorem states its own.
-/
import Derived.Test.YtgooffpmiilicaaMrp
set_option linter.unusedVariables false
set_option linter.unusedSimpArgs false
namespace Go.Proofs.Ytgooffpmiilicaa
open Go.RowKit Srt
theorem HpM.mvd {w w' : World} {A B0 hb : Nat} {cv : Value} {cs : List Col} {K : Nat} {lv : Value} {f : Nat → Hd} {n : Nat} (h : HpM w A B0 hb cv cs K lv f n) {S : Nat → Prop} (m : Mv S w w') (hS : ∀ k, S k → B0 ≤ k ∧ k ≠ hb ∧ lv.ownBlock ≠ some k) : HpM w' A B0 hb cv cs K lv f n := by
  have hA : A ≤ w.heap.size := by have := h.ab; have := h.lo; have := h.lt; omega
  have bA : Below A w w' := ⟨m.os, m.tape, m.output, m.size, fun k hk => m.block k (by omega) (fun q => by have := (hS k q).1; have := h.ab; omega)⟩
  have nh : ¬ S hb := fun q => (hS hb q).2.1 rfl
  exact ⟨own_keep h.own (fun k hk => m.block k (h.own.lt k hk).2 (fun q => (hS k q).2.2 hk)), (m.cell 0 h.lt nh).trans h.s0, (m.cell 1 h.lt nh).trans h.s1, (m.cell 2 h.lt nh).trans h.s2, Nat.lt_of_lt_of_le h.lt m.size, h.lo, h.ab, h.ne,
    fun q => (m.frozen q h.lt nh).trans (h.fr q), h.cols.mono bA (Nat.le_refl _), h.key, fun k hk => (h.recs k hk).mono bA (Nat.le_refl _)⟩
/-- The lists' slices lie in the first world. -/
def Sta (w : World) (f : Nat → Hd) (n : Nat) : Prop := ∀ j, j < n → RecsAt w w.heap.size (f j).v (f j).lst
theorem Sta.sw {w : World} {f g : Nat → Hd} {n : Nat} (h : Sta w f n) (p : Sw 0 n f g) : Sta w g n := fun k hk => p.all (Q := fun x => RecsAt w w.heap.size x.v x.lst) (fun k _ hk => h k hk) k (Nat.zero_le _) hk
/-- The second loop: k lists have been looked at. -/
structure L2 (w y wr : World) (hb : Nat) (cv : Value) (cs : List Col) (K : Nat) (Ls : List (List Rc)) (k n : Nat) (f : Nat → Hd) (lv : Value) : Prop where
  mem : HpM wr w.heap.size hb hb cv cs K lv f n
  hl : HL Hd.hd Hd.tl Hd.num f n (Ls.take k)
  hp : Hp (ltK cs K) f n
  live : Lv f n
  nk : n ≤ k
  st : Sta w f n
  ok : ∀ l ∈ Ls.take k, sortedF cs K l = true
  keep : Below hb y wr
theorem L2.on {w y wr wx : World} {hb : Nat} {cv : Value} {cs : List Col} {K : Nat} {Ls : List (List Rc)} {k n : Nat} {f : Nat → Hd} {lv : Value} (h : L2 w y wr hb cv cs K Ls k n f lv) (b : Below wr.heap.size wr wx) : L2 w y wx hb cv cs K Ls k n f lv :=
  ⟨h.mem.on b, h.hl, h.hp, h.live, h.nk, h.st, h.ok, h.keep.trans (b.mono (Nat.le_of_lt h.mem.lt))⟩
theorem take_mem {Ls : List (List Rc)} {k : Nat} (hk : k < Ls.length) {l : List Rc} (h : l ∈ Ls.take (k + 1)) : l ∈ Ls.take k ∨ l = Ls[k]'hk := by
  rw [List.take_succ_eq_append_getElem hk] at h
  rcases List.mem_append.1 h with h | h
  · exact .inl h
  · exact .inr (List.mem_singleton.1 h)
theorem L2.skip {w y wr : World} {hb : Nat} {cv : Value} {cs : List Col} {K : Nat} {Ls : List (List Rc)} {k n : Nat} {f : Nat → Hd} {lv : Value} (h : L2 w y wr hb cv cs K Ls k n f lv) (hk : k < Ls.length) (e : Ls[k]'hk = []) (hs : sortedF cs K (Ls[k]'hk) = true) : L2 w y wr hb cv cs K Ls (k + 1) n f lv :=
  ⟨h.mem, by rw [List.take_succ_eq_append_getElem hk, e]; exact h.hl.snil, h.hp, h.live, Nat.le_succ_of_le h.nk, h.st, fun l hl => by
    rcases take_mem hk hl with q | q
    · exact h.ok l q
    · rw [q]; exact hs, h.keep⟩
theorem L2.push {w y wr wx : World} {hb : Nat} {cv : Value} {cs : List Col} {K : Nat} {Ls : List (List Rc)} {k n : Nat} {f : Nat → Hd} {lv : Value} (h : L2 w y wr hb cv cs K Ls k n f lv) (hk : k < Ls.length) (v : Value) (hv : RecsAt w w.heap.size v (Ls[k]'hk)) (ne : Ls[k]'hk ≠ []) (hs : sortedF cs K (Ls[k]'hk) = true)
    (q : HPuPost wr w.heap.size hb hb cv cs K (upd f n ⟨v, Ls[k]'hk, k⟩) (n + 1) wx) : ∃ f' lv', L2 w y wx hb cv cs K Ls (k + 1) (n + 1) f' lv' := by
  obtain ⟨lv', f', a1, a2, a3, a4⟩ := q
  refine ⟨f', lv', a3, ?_, a2, Lv.sw (fun j hj => ?_) a1, by have := h.nk; omega, Sta.sw (fun j hj => ?_) a1, fun l hl => ?_, a4.belowB h.keep (Nat.le_of_lt h.mem.lt)⟩
  · refine HL.sw ?_ a1
    have hlen : (Ls.take k).length = k := by rw [List.length_take]; omega
    have := h.hl.push (⟨v, Ls[k]'hk, k⟩ : Hd) hlen.symm
    rw [List.take_succ_eq_append_getElem hk]
    rw [← Hd.cons (x := ⟨v, Ls[k]'hk, k⟩) ne] at this
    exact this
  · by_cases e : j = n
    · rw [e, upd_s]; exact ne
    · rw [upd_o f _ e]; exact h.live j (by omega)
  · by_cases e : j = n
    · rw [e, upd_s]; exact hv
    · rw [upd_o f _ e]; exact h.st j (by omega)
  · rcases take_mem hk hl with r | r
    · exact h.ok l r
    · rw [r]; exact hs
/-- The third loop, without memory: O is out, Lr the rests of the lists. -/
structure S3 (w : World) (cs : List Col) (K : Nat) (All : List Rc) (n : Nat) (f : Nat → Hd) (Lr : List (List Rc)) (O : List Rc) : Prop where
  hl : HL Hd.hd Hd.tl Hd.num f n Lr
  hp : Hp (ltK cs K) f n
  live : Lv f n
  st : Sta w f n
  asc : ∀ l ∈ Lr, l.Pairwise (fun x y => recD (tyK cs K) K x y < 0)
  eq : srt (recD (tyK cs K) K) All = O ++ srt (recD (tyK cs K) K) Lr.flatten
theorem S3.start {w y wr : World} {hb : Nat} {cv : Value} {cs : List Col} {K : Nat} {Ls : List (List Rc)} {n : Nat} {f : Nat → Hd} {lv : Value} (h : L2 w y wr hb cv cs K Ls Ls.length n f lv) : S3 w cs K Ls.flatten n f Ls [] := by
  have e : Ls.take Ls.length = Ls := List.take_length
  have h1 := h.hl
  have h2 := h.ok
  rw [e] at h1 h2
  exact ⟨h1, h.hp, h.live, h.st, fun l hl => sorted_pair (h2 l hl), rfl⟩
theorem S3.stop {w : World} {cs : List Col} {K : Nat} {All : List Rc} {f : Nat → Hd} {Lr : List (List Rc)} {O : List Rc} (h : S3 w cs K All 0 f Lr O) : srt (recD (tyK cs K) K) All = O := by
  rw [h.eq, h.hl.zero]
  simp [srt, srtR]
theorem S3.len {w : World} {cs : List Col} {K : Nat} {All : List Rc} {n : Nat} {f : Nat → Hd} {Lr : List (List Rc)} {O : List Rc} (h : S3 w cs K All n f Lr O) : O.length + Lr.flatten.length = All.length := by
  have := congrArg List.length h.eq
  rw [List.length_append, srt_len, srt_len] at this
  exact this.symm
theorem S3.step {w : World} {cs : List Col} {K : Nat} {All : List Rc} {n : Nat} {f : Nat → Hd} {Lr : List (List Rc)} {O : List Rc} (h : S3 w cs K All n f Lr O) (h0 : 0 < n) :
    srt (recD (tyK cs K) K) All = (O ++ [(f 0).hd]) ++ srt (recD (tyK cs K) K) (Lr.set (f 0).num (f 0).tl).flatten ∧ Lr.flatten.length = (Lr.set (f 0).num (f 0).tl).flatten.length + 1 ∧ ∀ l ∈ Lr.set (f 0).num (f 0).tl, l.Pairwise (fun x y => recD (tyK cs K) K x y < 0) := by
  have e := merge_step (recD_pre _ _) h.hl h.hp h0 h.asc
  refine ⟨by rw [h.eq, e]; simp, ?_, fun l hl => ?_⟩
  · have := congrArg List.length e
    rw [List.length_cons, srt_len, srt_len] at this
    exact this
  · rcases List.mem_or_eq_of_mem_set hl with q | q
    · exact h.asc l q
    · obtain ⟨hi, e0⟩ := List.getElem?_eq_some_iff.1 (h.hl.here 0 h0)
      have := h.asc _ (List.getElem_mem hi)
      rw [e0] at this
      rw [q]; exact (List.pairwise_cons.1 this).2
theorem S3.fix {w : World} {cs : List Col} {K : Nat} {All : List Rc} {n : Nat} {f f2 : Nat → Hd} {Lr : List (List Rc)} {O : List Rc} (h : S3 w cs K All n f Lr O) (h0 : 0 < n) (v : Value) (hv : RecsAt w w.heap.size v (f 0).tl) (ne : (f 0).tl ≠ []) (p : Sw 0 n (upd f 0 ⟨v, (f 0).tl, (f 0).num⟩) f2) (hp : Hp (ltK cs K) f2 n) :
    S3 w cs K All n f2 (Lr.set (f 0).num (f 0).tl) (O ++ [(f 0).hd]) := by
  obtain ⟨e1, _, e3⟩ := h.step h0
  refine ⟨HL.sw ?_ p, hp, Lv.sw (fun j hj => ?_) p, Sta.sw (fun j hj => ?_) p, e3, e1⟩
  · have := h.hl.fix h0 (⟨v, (f 0).tl, (f 0).num⟩ : Hd) rfl
    rw [← Hd.cons (x := ⟨v, (f 0).tl, (f 0).num⟩) ne] at this
    exact this
  · by_cases e : j = 0
    · rw [e, upd_s]; exact ne
    · rw [upd_o f _ e]; exact h.live j hj
  · by_cases e : j = 0
    · rw [e, upd_s]; exact hv
    · rw [upd_o f _ e]; exact h.st j hj
theorem S3.pop {w : World} {cs : List Col} {K : Nat} {All : List Rc} {m : Nat} {f f2 : Nat → Hd} {Lr : List (List Rc)} {O : List Rc} (h : S3 w cs K All (m + 1) f Lr O) (x : Hd) (e0 : (f 0).tl = []) (p : Sw 0 m (swp (upd f 0 x) 0 m) f2) (hp : Hp (ltK cs K) f2 m) :
    S3 w cs K All m f2 (Lr.set (f 0).num (f 0).tl) (O ++ [(f 0).hd]) := by
  obtain ⟨e1, _, e3⟩ := h.step (by omega)
  have al : ∀ {Q : Hd → Prop}, (∀ j, j < m + 1 → Q (f j)) → ∀ j, j < m → Q (swp (upd f 0 x) 0 m j) := fun {Q} hq j hj => by
    rw [swp_upd0 f x j hj, swp_pl]; exact hq _ (pl_lt (by omega) (by omega) (by omega))
  refine ⟨HL.sw ?_ p, hp, Lv.sw (al (Q := fun x => x.lst ≠ []) h.live) p, Sta.sw (al (Q := fun x => RecsAt w w.heap.size x.v x.lst) h.st) p, e3, e1⟩
  have := h.hl.pop
  rw [e0]
  exact HL.congr this (swp_upd0 f x)
theorem S3.popD {w : World} {cs : List Col} {K : Nat} {All : List Rc} {m : Nat} {f : Nat → Hd} {Lr : List (List Rc)} {O : List Rc} (h : S3 w cs K All (m + 1) f Lr O) (x : Hd) : HpD (ltK cs K) (swp (upd f 0 x) 0 m) m 0 ∧ Lv (swp (upd f 0 x) 0 m) m :=
  ⟨HpD.congr (Hp.pop h.hp) (swp_upd0 f x), fun j hj => by rw [swp_upd0 f x j hj, swp_pl]; exact h.live _ (pl_lt (by omega) (by omega) (by omega))⟩
/-- The third loop's memory. -/
structure M3 (w y wr : World) (hb : Nat) (cv : Value) (cs : List Col) (K n : Nat) (f : Nat → Hd) (lv : Value) (O : List Rc) (ps : List (Int × Value)) (ov : Value) : Prop where
  mem : HpM wr w.heap.size hb hb cv cs K lv f n
  own : wr.ownsRow hb 35 2 ov ps.length (ps.flatMap rcC)
  prs : Prs w w.heap.size ps O
  sep : ∀ k, ov.ownBlock = some k → k ≠ hb ∧ lv.ownBlock ≠ some k
  keep : Below hb y wr
theorem M3.on {w y wr wx : World} {hb : Nat} {cv : Value} {cs : List Col} {K n : Nat} {f : Nat → Hd} {lv : Value} {O : List Rc} {ps : List (Int × Value)} {ov : Value} (h : M3 w y wr hb cv cs K n f lv O ps ov) (b : Below wr.heap.size wr wx) : M3 w y wx hb cv cs K n f lv O ps ov :=
  ⟨h.mem.on b, own_to h.own b, h.prs, h.sep, h.keep.trans (b.mono (Nat.le_of_lt h.mem.lt))⟩
/-- A record behind out. -/
theorem M3.app {w y wr W w7 : World} {hb : Nat} {cv : Value} {cs : List Col} {K n : Nat} {f : Nat → Hd} {lv : Value} {O : List Rc} {ps : List (Int × Value)} {ov ov' : Value} (h : M3 w y wr hb cv cs K n f lv O ps ov) (b : Below wr.heap.size wr W) {sq : Int} {rl : Value} {r : Rc} (hs : sq = r.seq) (hr : ValsAt w w.heap.size rl r.row) {gb H : Nat}
    (hown : w7.ownsRow hb 35 2 ov' (ps.length + 1) (ps.flatMap rcC ++ rcC (sq, rl))) (hgrow : W.grownBy w7 ov.ownBlock) (ho : ov'.ownBlock = some gb) (hat : ov.ownBlock = some gb ∨ gb = H) (hH : wr.heap.size ≤ H) : M3 w y w7 hb cv cs K n f lv (O ++ [r]) (ps ++ [(sq, rl)]) ov' := by
  have h1 := h.on b
  have mv : Mv (fun k => ov.ownBlock = some k) W w7 := ⟨hgrow.os, hgrow.tape, hgrow.output, hgrow.size, fun k hk hs => hgrow.block k hk (fun e => hs e.symm)⟩
  refine ⟨h1.mem.mvd mv (fun k hk => ⟨(h1.own.lt k hk).1, (h1.sep k hk).1, (h1.sep k hk).2⟩), by rw [List.length_append, List.flatMap_append]; simpa using hown, h.prs.snoc hs hr, fun k hk => ?_, ?_⟩
  · rw [ho] at hk
    injection hk with hk
    subst hk
    rcases hat with q | q
    · exact h.sep _ q
    · subst q
      exact ⟨by have := h.mem.lt; omega, fun e => by have := (h.mem.own.lt _ e).2; omega⟩
  · exact h1.keep.trans ⟨mv.os, mv.tape, mv.output, mv.size, fun i hi => mv.block i (by have := h1.mem.lt; omega) (fun q => by have := (h1.own.lt i q).1; omega)⟩
/-- The heads have been worked upon. -/
theorem M3.heads {w y wr wx : World} {hb : Nat} {cv : Value} {cs : List Col} {K n n' : Nat} {f f' : Nat → Hd} {lv lv' : Value} {O : List Rc} {ps : List (Int × Value)} {ov : Value} (h : M3 w y wr hb cv cs K n f lv O ps ov) (hm : HpM wx w.heap.size hb hb cv cs K lv' f' n') (mv : Mv (fun k => k = hb ∨ lv.ownBlock = some k) wr wx) (e : lv'.ownBlock = lv.ownBlock) : M3 w y wx hb cv cs K n' f' lv' O ps ov :=
  ⟨hm, own_keep h.own (fun k hk => mv.block k (h.own.lt k hk).2 (fun q => by rcases q with q | q; exact (h.sep k hk).1 q; exact (h.sep k hk).2 q)), h.prs, fun k hk => by rw [e]; exact h.sep k hk,
    h.keep.trans ⟨mv.os, mv.tape, mv.output, mv.size, fun i hi => mv.block i (by have := h.mem.lt; omega) (fun q => by rcases q with q | q; omega; have := (h.mem.own.lt i q).1; omega)⟩⟩
theorem M3.recs {w y wr : World} {hb : Nat} {cv : Value} {cs : List Col} {K n : Nat} {f : Nat → Hd} {lv : Value} {O : List Rc} {ps : List (Int × Value)} {ov : Value} (h : M3 w y wr hb cv cs K n f lv O ps ov) (b : Below w.heap.size w wr) (hl : O.length ≤ 9223372036854775807) : RecsAt wr wr.heap.size ov O :=
  own_recs hl (h.prs.mono b b.size) h.own
end Go.Proofs.Ytgooffpmiilicaa
