/-
  THE HEADS' METHODS Push and Pop. Conditions: each theorem states its own.
-/
import Derived.Test.YtgooffpmiilicaaHsw
import Derived.Test.YtgooffpmiilicaaRst
import Derived.Deep.RegionLaw
set_option linter.unusedVariables false
set_option linter.unusedSimpArgs false
namespace Go.Proofs.Ytgooffpmiilicaa
open Go.RowKit Srt
theorem infoHd : (Try.prog.info? 69).map (fun i => (i.zero, i.size, i.bytes)) = some (some (.agg #[.slice none 0 0, .int .i64 0]), 2, 32) := by kernel_rfl
theorem toL_snoc {α : Type} (f : Nat → α) (n : Nat) (x : α) : toL (upd f n x) (n + 1) = toL f n ++ [x] := by
  unfold toL
  rw [List.range_succ, List.map_append, List.map_singleton, upd_s]
  congr 1
  apply List.map_congr_left
  intro k hk
  exact upd_o f x (by have := List.mem_range.1 hk; omega)
theorem run_heads_h {a : Option Addr} {n c K : Nat} (hK : K ≤ c) (W : World) : (Instr.slice 64 (.slice a n c) none (some (.int .i64 (K : Int))) none).run Try.prog W = .ok (.slice a K c) W := by
  have ht : Try.prog.underlying 64 = some (.slice (Try.prog.elem 64)) := by kernel_rfl
  have he : Try.prog.elem 64 = 69 := by kernel_rfl
  obtain ⟨i1, hj, hy0, hy1, hy2⟩ := info_parts infoHd
  rw [run_slice_h (ht := ht) (h0 := by omega) (h2 := by omega), he]
  simp [sizeOf, typeInfo, hj, hy1, Result.andThen, sliced, Addr.add]
theorem HpM.pushed {w W w7 : World} {A B0 hb : Nat} {cv : Value} {cs : List Col} {K : Nat} {lv : Value} {f : Nat → Hd} {n : Nat} (h : HpM w A B0 hb cv cs K lv f n) (hW : Below w.heap.size w W) (x : Hd) (hx : RecsAt w A x.v x.lst) {gb cap H : Nat}
    (hown : w7.ownsRow B0 69 2 (.slice (some ⟨gb, 0, none⟩) (n + 1) cap) (n + 1) ((toL f n).flatMap hdC ++ [x.v, .int .i64 (x.num : Int)])) (hgrow : W.grownBy w7 lv.ownBlock) (hat : lv.ownBlock = some gb ∨ gb = H) (hH : w.heap.size ≤ H) :
    HpM (w7.setCell ⟨hb, 2, none⟩ (.slice (some ⟨gb, 0, none⟩) (n + 1) cap)) A B0 hb cv cs K (.slice (some ⟨gb, 0, none⟩) (n + 1) cap) (upd f n x) (n + 1) ∧
    Mv (fun k => k = hb ∨ lv.ownBlock = some k) w (w7.setCell ⟨hb, 2, none⟩ (.slice (some ⟨gb, 0, none⟩) (n + 1) cap)) := by
  have hA : A ≤ w.heap.size := by have := h.ab; have := h.lo; have := h.lt; omega
  have ne : gb ≠ hb := by
    rcases hat with q | q
    · exact h.ne gb q
    · have := h.lt; omega
  have hb0 : hb < W.heap.size := Nat.lt_of_lt_of_le h.lt hW.size
  have nr : some hb ≠ lv.ownBlock := fun e => h.ne hb e.symm rfl
  have m1 : Mv (fun k => k = hb ∨ lv.ownBlock = some k) w w7 := (Mv.of_below hW).trans ⟨hgrow.os, hgrow.tape, hgrow.output, hgrow.size, fun k hk hs => hgrow.block k hk (fun e => hs (.inr e.symm))⟩
  have m2 := m1.st (p := ⟨hb, 2, none⟩) (.inl (.inl rfl)) (.slice (some ⟨gb, 0, none⟩) (n + 1) cap)
  have bA : Below A w (w7.setCell ⟨hb, 2, none⟩ (.slice (some ⟨gb, 0, none⟩) (n + 1) cap)) := ⟨m2.os, m2.tape, m2.output, m2.size, fun k hk => m2.block k (by omega) (fun q => by
    rcases q with q | q
    · have := h.ab; have := h.lo; omega
    · have := (h.own.lt k q).1; have := h.ab; omega)⟩
  have cw : ∀ q, w7.cell? ⟨hb, q, none⟩ = w.cell? ⟨hb, q, none⟩ := fun q => (World.cell?_of_block (a := ⟨hb, q, none⟩) (hgrow.block hb hb0 nr)).trans (hW.cell (p := ⟨hb, q, none⟩) h.lt)
  refine ⟨⟨own_st ?_ (p := ⟨hb, 2, none⟩) (fun k hk => by injection hk with hk; rw [← hk]; exact ne) _, ?_, ?_, ?_, by have := hgrow.size; simp; omega, h.lo, h.ab, fun k hk => by injection hk with hk; rw [← hk]; exact ne, fun q => ?_, h.cols.mono bA (Nat.le_refl _), h.key, fun k hk => ?_⟩, m2⟩
  · rw [toL_snoc, List.flatMap_append, List.flatMap_singleton]; exact hown
  · rw [World.cell?_setCell_other (h := by intro e; simp at e), cw]; exact h.s0
  · rw [World.cell?_setCell_other (h := by intro e; simp at e), cw]; exact h.s1
  · exact World.cell?_setCell_same' _ _ _ (by rw [cw, h.s2]; rfl)
  · rw [World.frozen?_setCell]; exact (World.frozen?_of_block (a := ⟨hb, q, none⟩) (hgrow.block hb hb0 nr)).trans ((hW.frozen (p := ⟨hb, q, none⟩) h.lt).trans (h.fr q))
  · by_cases e : k = n
    · subst e; rw [upd_s]; exact hx.mono bA (Nat.le_refl _)
    · rw [upd_o f x e]; exact (h.recs k (by omega)).mono bA (Nat.le_refl _)
@[go_sem] theorem ta_head (v : Value) (w : World) : (Instr.typeAssert (.iface 69 v) 20 69 false).run Try.prog w = .ok v w := by
  simp [Instr.typeAssert, run_underlying Try.underlying69, go_sem, Result.andThen]
def PuPost (w : World) (A B0 hb : Nat) (cv : Value) (cs : List Col) (K : Nat) (lv : Value) (f : Nat → Hd) (n : Nat) (e : Ending) (w' : World) : Prop :=
  e = .returned (.tuple #[]) ∧ ∃ gb cap, HpM w' A B0 hb cv cs K (.slice (some ⟨gb, 0, none⟩) n cap) f n ∧ Mv (fun k => k = hb ∨ lv.ownBlock = some k) w w'
set_option maxRecDepth 8000 in
set_option maxHeartbeats 1000000 in
theorem push_any {w : World} {A B0 hb : Nat} {cv : Value} {cs : List Col} {K : Nat} {lv : Value} {f : Nat → Hd} {n : Nat} (hM : HpM w A B0 hb cv cs K lv f n) (x : Hd) (hx : RecsAt w A x.v x.lst) (hn : n ≤ 100) :
    Calls Try.prog 95 #[.pointer (some ⟨hb, 0, none⟩), .iface 69 (.agg #[x.v, .int .i64 (x.num : Int)])] w (PuPost w A B0 hb cv cs K lv (upd f n x) (n + 1)) := by
  obtain ⟨i0, hi, hz0, hz1, hz2⟩ := info_parts infoHd
  have HM := Lib.hid hM
  have HX := Lib.hid hx
  obtain ⟨a, c, rfl⟩ := own_form hM.own
  have s2 := hM.s2
  have hlt := hM.lt
  have fr2 := hM.fr 2
  obtain ⟨xa, xc, hxv⟩ := recs_end hx
  obtain ⟨p, hp⟩ : ∃ p : Int, (x.num : Int) = p := ⟨_, rfl⟩
  have HV := Lib.hid (And.intro hxv hp)
  rw [hxv, hp]
  unfold PuPost
  obtain ⟨xs, hxs⟩ : ∃ xs, (toL f n).flatMap hdC = xs := ⟨_, rfl⟩
  have HO := Lib.hid hM.own
  rw [hxs] at HO
  have HXS := Lib.hid hxs
  have HN := Lib.hid (fun k => hM.ne k)
  have HB : B0 ≤ w.heap.size := by have := hM.lo; omega
  clear hM hx hxv hp hxs
  generalize x.lst.length = xt at *
  go_enter Try.func95, Try.ntmps95
  go_region_law ((first | (refine step_append_lies _ (by rfl) _ _ 64 (by rfl) B0 69 i0 _ 2 32 Try.underlying64 hi hz0 hz1 hz2 rfl (by decide) (.slice a n c) n xs (by rfl) (own_to HO.out ((Below.refl _ _).drew.alloc (Nat.le_refl _) _)) ⟨w.heap.size, 0, none⟩ 1 1 [.slice xa xt xc, .int .i64 p] (by rfl) rfl (World.news_of_block (heap_alloc_new w.drew _)) (by simp [Value.oneCell']) (by omega) (by unfold maxLen; omega) (by omega) (by simp; omega) (w.heap.size + 1) (by simp) ?_; intro gb cap w7 hown hgrow hat hlt7; have u0 : w7.cell? ⟨hb, 2, none⟩ = some (.slice a n c) := hgrow.cell (a := ⟨hb, 2, none⟩) (by simp (maxDischargeDepth := 9) [go_sem, *]) (fun e => HN.out hb e.symm rfl); have u1 : w7.frozen? ⟨hb, 2, none⟩ = false := (hgrow.frozen_far ⟨hb, 2, none⟩ (by simp; omega) (fun e => HN.out hb e.symm rfl)).trans (by simp (maxDischargeDepth := 9) [go_sem, *])) | fail))
  all_goals (have PS := HM.out.pushed (W := (w.alloc (.cells #[.slice xa xt xc, .int .i64 p] 69)).drew) ((Below.refl _ _).alloc (Nat.le_refl _) _).drew x HX.out (by rw [HXS.out, HV.out.1, HV.out.2]; exact hown) hgrow hat (Nat.le_succ _))
  all_goals (clear hown hgrow hat hlt7 u0 u1)
  all_goals go_end0
  all_goals exact ⟨rfl, gb, cap, PS.1, PS.2⟩
theorem HpM.popped {w : World} {A B0 hb : Nat} {cv : Value} {cs : List Col} {K : Nat} {f : Nat → Hd} {m g cap : Nat} (h : HpM w A B0 hb cv cs K (.slice (some ⟨g, 0, none⟩) (m + 1) cap) f (m + 1)) :
    HpM (w.setCell ⟨hb, 2, none⟩ (.slice (some ⟨g, 0, none⟩) m cap)) A B0 hb cv cs K (.slice (some ⟨g, 0, none⟩) m cap) f m ∧ Mv (fun k => k = hb) w (w.setCell ⟨hb, 2, none⟩ (.slice (some ⟨g, 0, none⟩) m cap)) := by
  have ne := h.ne g rfl
  have bA : Below A w (w.setCell ⟨hb, 2, none⟩ (.slice (some ⟨g, 0, none⟩) m cap)) := (Below.refl A w).setCell (p := ⟨hb, 2, none⟩) (Nat.le_trans h.ab h.lo) _
  have o1 : w.ownsRow B0 69 2 (.slice (some ⟨g, 0, none⟩) m cap) m ((toL f m).flatMap hdC) := by
    have ho := h.own
    have e : toL f (m + 1) = toL f m ++ [f m] := by unfold toL; rw [List.range_succ, List.map_append]; rfl
    rw [e, List.flatMap_append] at ho
    have hl : ((toL f m).flatMap hdC).length = m * 2 := by rw [flat_len hdC 2 (fun _ => rfl), toL_len]
    refine ⟨hl, .inr ?_⟩
    rcases ho.2 with ⟨h', _⟩ | ⟨g', cap', cur, h', k1, k2, k3, k4, k5, k6⟩
    · simp at h'
    · simp only [Value.slice.injEq, Option.some.injEq, Addr.mk.injEq, and_true, true_and] at h'
      obtain ⟨rfl, rfl⟩ := h'
      refine ⟨g, cap, cur, rfl, k1, k2, by omega, k4, k5, ?_⟩
      have := congrArg (List.take (m * 2)) k6
      rw [List.take_take, List.take_left' hl] at this
      rw [← this]; congr 1; omega
  refine ⟨⟨own_st o1 (p := ⟨hb, 2, none⟩) (fun k hk => by injection hk with hk; rw [← hk]; exact ne) _, ?_, ?_, ?_, by simpa using h.lt, h.lo, h.ab, fun k hk => by injection hk with hk; rw [← hk]; exact ne, fun q => by rw [World.frozen?_setCell]; exact h.fr q, h.cols.mono bA (Nat.le_refl _), h.key, fun k hk => (h.recs k (by omega)).mono bA (Nat.le_refl _)⟩, (Mv.refl (fun k => k = hb) w).st (p := ⟨hb, 2, none⟩) (.inl rfl) _⟩
  · rw [World.cell?_setCell_other (h := by intro e; simp at e)]; exact h.s0
  · rw [World.cell?_setCell_other (h := by intro e; simp at e)]; exact h.s1
  · exact World.cell?_setCell_same' _ _ _ (by rw [h.s2]; rfl)
def PoPost (w : World) (A B0 hb : Nat) (cv : Value) (cs : List Col) (K : Nat) (g cap : Nat) (f : Nat → Hd) (m : Nat) (e : Ending) (w' : World) : Prop :=
  ∃ v, e = .returned v ∧ HpM w' A B0 hb cv cs K (.slice (some ⟨g, 0, none⟩) m cap) f m ∧ Mv (fun k => k = hb) w w'
set_option maxRecDepth 8000 in
set_option maxHeartbeats 1000000 in
theorem hpop_any {w : World} {A B0 hb : Nat} {cv : Value} {cs : List Col} {K : Nat} {f : Nat → Hd} {m g cap : Nat} (hM : HpM w A B0 hb cv cs K (.slice (some ⟨g, 0, none⟩) (m + 1) cap) f (m + 1)) (hn : m ≤ 100) :
    Calls Try.prog 94 #[.pointer (some ⟨hb, 0, none⟩)] w (PoPost w A B0 hb cv cs K g cap f m) := by
  have HM := Lib.hid hM
  obtain ⟨g', cap', e, hcap, hg0, hg, hgh, hfr, HC⟩ := hM.row (by omega)
  injection e with e1 e2 e3
  injection e1 with e1
  injection e1 with e1
  subst e1 e3
  obtain ⟨a0, a1⟩ := HC m (by omega)
  obtain ⟨xa, xc, hxv⟩ := recs_end (hM.recs m (by omega))
  obtain ⟨p, hp⟩ : ∃ p : Int, ((f m).num : Int) = p := ⟨_, rfl⟩
  rw [hxv] at a0
  rw [hp] at a1
  have s2 := hM.s2
  have hlt := hM.lt
  have fr2 := hM.fr 2
  generalize (f m).lst.length = xt at *
  unfold PoPost
  have t1 : (((m + 1 : Nat) : Int)) - 1 = (m : Int) := by omega
  have t2 : (m : Int) < ((m + 1 : Nat) : Int) := by omega
  have t3 : (m : Int) ≤ 100 := by omega
  have t4 : (0 : Int) ≤ (m : Int) := by omega
  have RS : ∀ W, (Instr.slice 64 (.slice (some ⟨g, 0, none⟩) (m + 1) cap) none (some (.int .i64 (m : Int))) none).run Try.prog W = .ok (.slice (some ⟨g, 0, none⟩) m cap) W := fun W => run_heads_h (by omega) W
  have HG := Lib.hid hgh
  clear hM HC hxv hp hcap hg0 hfr e2 hgh
  go_enter Try.func94, Try.ntmps94
  go_upto_region 1 with fail
  go_region
  go_upto_region 2 with fail
  refine captureM ?_
  intro y ey
  have yb : Below w.heap.size w y := by rw [ey]; exact (by repeat (first | with_reducible exact Below.refl _ _ | with_reducible assumption | with_reducible refine Below.al ?_ _ | with_reducible refine Below.on ?_ _ | with_reducible refine Below.st ?_ (by first | assumption | (simp; done) | (simp; omega)) _ | with_reducible refine Below.drew ?_))
  have z0 : y.cell? ⟨w.heap.size, 0, none⟩ = some (.slice xa xt xc) := by rw [ey]; simp (maxDischargeDepth := 9) [go_sem, *]
  have z1 : y.cell? ⟨w.heap.size, 1, none⟩ = some (.int .i64 p) := by rw [ey]; simp (maxDischargeDepth := 9) [go_sem, *]
  have y2 := (yb.cell (p := ⟨hb, 2, none⟩) hlt).trans s2
  have y3 := (yb.frozen (p := ⟨hb, 2, none⟩) hlt).trans fr2
  have PP := Lib.hid ((HM.out.on yb).popped)
  have YB := Lib.hid yb
  have nh : hb ≠ w.heap.size := by omega
  have nh' := nh.symm
  clear ey s2 fr2 a0 a1 yb
  go_region
  go_wp2_with fail
  refine bodyPost_ret (v := .iface 69 (.agg #[.slice xa xt xc, .int .i64 p])) ?_ rfl ⟨⟨_, rfl⟩, PP.out.1.drew, ((Mv.of_below YB.out).trans PP.out.2).drew⟩
  simp (maxDischargeDepth := 9) [results, Try.results94, go_sem, *]
end Go.Proofs.Ytgooffpmiilicaa
