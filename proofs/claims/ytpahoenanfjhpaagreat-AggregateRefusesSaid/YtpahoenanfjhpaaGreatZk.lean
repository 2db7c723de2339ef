/-
  CHAPTER 26: Ksl, Knd, Kpr, Ksc (several texts in one). Conditions: each theorem states its own.
-/
import Derived.Test.YtpahoenanfjhpaaGreatZd
import Derived.Test.YtpahoenanfjhpaaGreatZc
import Derived.Test.YtpahoenanfjhpaaGreatZe
import Derived.Deep.CutRange
import Derived.Deep.RegionLaw
import Derived.Maps.AppendAt
import Derived.Deep.RegionHeld3
import Derived.IntWalk
set_option linter.unusedVariables false
set_option linter.unusedSimpArgs false
namespace Go.Proofs.YtpahoenanfjhpaaGreat
open Go.RowKit
def ltr (m : Nat) : ByteArray := (⟨#[97, 98, 99, 100]⟩ : ByteArray).extract (m - 1) m
theorem ltr_name {m : Nat} (h1 : 1 ≤ m) (h4 : m ≤ 4) : nameF (ltr m).toList = true := by
  have : m = 1 ∨ m = 2 ∨ m = 3 ∨ m = 4 := by omega
  rw [ByteArray.toList_eq]
  rcases this with rfl | rfl | rfl | rfl <;> decide
theorem ltr_ne {m k : Nat} (h1 : 1 ≤ m) (hk : m < k) (h4 : k ≤ 4) : ¬ (ltr k).toList = (ltr m).toList := by
  have : (m = 1 ∧ k = 2) ∨ (m = 1 ∧ k = 3) ∨ (m = 1 ∧ k = 4) ∨ (m = 2 ∧ k = 3) ∨ (m = 2 ∧ k = 4) ∨ (m = 3 ∧ k = 4) := by omega
  rw [ByteArray.toList_eq, ByteArray.toList_eq]
  rcases this with ⟨rfl, rfl⟩ | ⟨rfl, rfl⟩ | ⟨rfl, rfl⟩ | ⟨rfl, rfl⟩ | ⟨rfl, rfl⟩ | ⟨rfl, rfl⟩ <;> decide
theorem colsE_snoc : ∀ (cs pre : List Col) (c : Col), colsE pre cs = 0 → colE (pre ++ cs) c = 0 → colsE pre (cs ++ [c]) = 0
  | [], pre, c, _, h => by
    simp only [List.append_nil] at h
    simp [colsE, h]
  | d :: cs, pre, c, h0, h => by
    simp only [List.cons_append, colsE] at h0 ⊢
    by_cases e : colE pre d = 0
    · rw [if_pos e] at h0 ⊢
      exact colsE_snoc cs (pre ++ [d]) c h0 (by rw [List.append_assoc]; exact h)
    · rw [if_neg e] at h0; exact absurd h0 e
/-- The columns that are drawn when m names are left. -/
def ScOk (m : Nat) (cs : List Col) : Prop := colsE [] cs = 0 ∧ ∀ c ∈ cs, ∃ j, m < j ∧ j ≤ 4 ∧ c.nm = ltr j
theorem ScOk.nil (m : Nat) : ScOk m [] := ⟨rfl, fun c h => absurd h (by simp)⟩
theorem ScOk.snoc {m : Nat} {cs : List Col} {ty sc : Int} {nul : Bool} (h : ScOk (m + 1) cs) (hm : m + 1 ≤ 4) (h1 : 1 ≤ ty) (h5 : ty ≤ 5) (hs0 : 0 ≤ sc) (hs : sc ≤ 18) (hz : ¬ ty = 5 → sc = 0) : ScOk m (cs ++ [⟨ltr (m + 1), ty, sc, nul⟩]) := by
  refine ⟨colsE_snoc cs [] _ h.1 ?_, ?_⟩
  · unfold colE
    dsimp only
    rw [if_neg (by rw [ltr_name (by omega) hm]; simp), if_neg ?_, if_neg (by omega), if_neg (by omega)]
    simp only [List.nil_append, List.any_eq_true, beq_iff_eq, not_exists, not_and]
    intro d hd
    obtain ⟨j, hj, hj4, hn⟩ := h.2 d hd
    rw [hn]
    exact ltr_ne (by omega) hj hj4
  · intro c hc
    rcases List.mem_append.1 hc with hc | hc
    · obtain ⟨j, hj, hj4, hn⟩ := h.2 c hc
      exact ⟨j, by omega, hj4, hn⟩
    · rw [List.mem_singleton.1 hc]
      exact ⟨m + 1, by omega, hm, rfl⟩
theorem ScOk.schema {cs : List Col} {key : Int} (h : ScOk 0 cs) (h0 : 0 < cs.length) (h4 : cs.length ≤ 4) (hk : 0 ≤ key) (hk' : key < cs.length) : schemaF cs key = 0 := by
  unfold schemaF
  rw [if_neg (by omega), if_neg (by omega), if_pos h.1, if_neg (by omega)]
end Go.Proofs.YtpahoenanfjhpaaGreat
namespace Go.Proofs.YtpahoenanfjhpaaGreat
open Go.RowKit
theorem nodE_logic {cs : List Col} {i op a b : Int} {v : Val} {ls : List Val} {c : Int} (h1 : 9 ≤ op) (h2 : op ≤ 11) (ha : 0 ≤ a) (ha' : a < i) (hb : ¬ op = 11 → 0 ≤ b ∧ b < i) : nodE cs i ⟨op, c, v, ls, a, b⟩ = 0 := by
  unfold nodE
  dsimp only
  rw [if_neg (by omega), if_pos h1, if_neg ?_]
  rintro (h | h | ⟨h, h'⟩)
  · omega
  · omega
  · have := hb h; omega
theorem valF_notnull (ty : Int) (r : List Int) : (valF ty false r).1.null = false := by
  unfold valF
  rw [if_neg (by simp [nullF])]
  split <;> rfl
theorem vchk_anynul {ty : Int} {a b : Bool} {n : Int} {s : ByteArray} (h : vchk ty a false n s = 0) : vchk ty b false n s = 0 := by
  unfold vchk at h ⊢
  simpa using h
theorem nodE_cmp {cs : List Col} {K : Nat} {i op n a b : Int} {s : ByteArray} {ls : List Val} (hK : K < cs.length) (h1 : 1 ≤ op) (h6 : op ≤ 6) (hv : vchk (cs[K]'hK).ty false false n s = 0) : nodE cs i ⟨op, K, ⟨false, n, s⟩, ls, a, b⟩ = 0 := by
  rw [nodE_col (K := K) (by dsimp only; omega) (by dsimp only; omega) rfl hK, if_neg (by dsimp only; omega), if_pos (by dsimp only; omega)]
  simp only [Bool.false_eq_true, if_false]
  exact vchk_anynul hv
theorem nodE_null {cs : List Col} {K : Nat} {i a b : Int} {v : Val} {ls : List Val} (hK : K < cs.length) : nodE cs i ⟨8, K, v, ls, a, b⟩ = 0 := by
  rw [nodE_col (K := K) (by dsimp only; omega) (by dsimp only; omega) rfl hK, if_pos rfl]
theorem nodE_in {cs : List Col} {K : Nat} {i a b : Int} {v : Val} {ls : List Val} (hK : K < cs.length) (h1 : 1 ≤ ls.length) (h4 : ls.length ≤ 4) (h : listE (cs[K]'hK).ty ls = 0) : nodE cs i ⟨7, K, v, ls, a, b⟩ = 0 := by
  rw [nodE_col (K := K) (by dsimp only; omega) (by dsimp only; omega) rfl hK, if_neg (by dsimp only; omega), if_neg (by dsimp only; omega), if_neg (by dsimp only; omega), if_neg (by dsimp only; omega)]
  exact h
theorem listE_snoc {ty : Int} : ∀ {ls : List Val} {v : Val}, listE ty ls = 0 → vchk ty true v.null v.n v.s = 0 → listE ty (ls ++ [v]) = 0
  | [], v, _, h => by simp [listE, h]
  | u :: ls, v, h0, h => by
    simp only [List.cons_append, listE] at h0 ⊢
    by_cases e : vchk ty true u.null u.n u.s = 0
    · rw [if_pos e] at h0 ⊢
      exact listE_snoc h0 h
    · rw [if_neg e] at h0; exact absurd h0 e
structure InMem (y0 : World) (sb NB : Nat) (wr : World) (lv : Value) (ls : List Val) (r : List Int) : Prop where
  mv : Mv (fun k => k = sb ∨ k = NB) y0 wr
  so : sb < NB
  nl : NB < y0.heap.size
  src : SrcAt wr sb r
  c5 : wr.cell? ⟨NB, 5, none⟩ = some lv
  f5 : wr.frozen? ⟨NB, 5, none⟩ = false
  oth : ∀ j, j ≠ 5 → wr.cell? ⟨NB, j, none⟩ = y0.cell? ⟨NB, j, none⟩
  own : wr.ownsRow y0.heap.size 41 3 lv ls.length (ls.flatMap valC)
theorem InMem.on {y0 : World} {sb NB : Nat} {wr wx : World} {lv : Value} {ls : List Val} {r r' : List Int} (h : InMem y0 sb NB wr lv ls r) (hm : Mv (fun k => k = sb) wr wx) (hs : SrcAt wx sb r') : InMem y0 sb NB wx lv ls r' := by
  have so := h.so
  have ho : wx.heap[NB]? = wr.heap[NB]? := hm.block NB (Nat.lt_of_lt_of_le h.nl h.mv.size) (by omega)
  exact ⟨h.mv.trans (hm.mono fun _ _ q => .inl q), so, h.nl, hs, (World.cell?_of_block (w := wr) ho).trans h.c5, (World.frozen?_of_block (w := wr) ho).trans h.f5, fun j hj => (World.cell?_of_block (w := wr) ho).trans (h.oth j hj),
    own_mv h.own hm fun k hk => by have := h.nl; omega⟩
theorem InMem.al {y0 : World} {sb NB : Nat} {wr : World} {lv : Value} {ls : List Val} {r : List Int} (h : InMem y0 sb NB wr lv ls r) (o : Obj) : InMem y0 sb NB (wr.alloc o) lv ls r := h.on ((Mv.refl _ _).al o) (h.src.al o)
theorem InMem.farO {y0 : World} {sb NB : Nat} {wr w1 : World} {lv : Value} {ls : List Val} {r : List Int} (h : InMem y0 sb NB wr lv ls r) (hg : wr.grownBy w1 lv.ownBlock) {b : Nat} (j : Nat) (hb : b < y0.heap.size) : w1.cell? ⟨b, j, none⟩ = wr.cell? ⟨b, j, none⟩ := by
  have hrow : ∀ k, lv.ownBlock = some k → y0.heap.size ≤ k := fun k hk => (h.own.lt k hk).1
  exact World.cell?_of_block (w := wr) (hg.block b (Nat.lt_of_lt_of_le hb h.mv.size) (fun e => by have := hrow b e.symm; omega))
theorem InMem.far {y0 : World} {sb NB : Nat} {wr w1 : World} {lv : Value} {ls : List Val} {r : List Int} (h : InMem y0 sb NB wr lv ls r) (hg : wr.grownBy w1 lv.ownBlock) : w1.cell? ⟨NB, 5, none⟩ = some lv ∧ w1.frozen? ⟨NB, 5, none⟩ = false := by
  have hrow : ∀ k, lv.ownBlock = some k → y0.heap.size ≤ k := fun k hk => (h.own.lt k hk).1
  have nl := h.nl
  have hb := hg.block NB (Nat.lt_of_lt_of_le nl h.mv.size) (fun e => by have := hrow NB e.symm; omega)
  exact ⟨(World.cell?_of_block (w := wr) hb).trans h.c5, (World.frozen?_of_block (w := wr) hb).trans h.f5⟩
theorem InMem.step {y0 : World} {sb NB : Nat} {wr w1 : World} {lv v1 : Value} {ls : List Val} {c : Val} {r : List Int} (h : InMem y0 sb NB wr lv ls r) (hg : wr.grownBy w1 lv.ownBlock) (ho : w1.ownsRow y0.heap.size 41 3 v1 (ls.length + 1) (ls.flatMap valC ++ valC c)) :
    InMem y0 sb NB (w1.setCell ⟨NB, 5, none⟩ v1) v1 (ls ++ [c]) r := by
  have hrow : ∀ k, lv.ownBlock = some k → y0.heap.size ≤ k := fun k hk => (h.own.lt k hk).1
  have so := h.so
  have nl := h.nl
  have k := h.far hg
  refine ⟨(h.mv.gr hg hrow).st (.inl (.inr rfl)) _, so, nl, (h.src.grw hg fun k hk => by have := hrow k hk; omega).stn so _, ?_, ?_, ?_, ?_⟩
  · exact World.cell?_setCell_same _ _ _ k.1
  · rw [World.frozen?_setCell]; exact k.2
  · intro j hj
    rw [World.cell?_setCell_other _ _ _ _ (by intro e; injection e with _ e; exact hj e.symm)]
    exact (h.farO hg j nl).trans (h.oth j hj)
  · rw [List.length_append, List.flatMap_append, List.flatMap_cons, List.flatMap_nil, List.append_nil]
    exact own_mv ho ((Mv.refl (fun k => k = NB) w1).st (.inl rfl) _) fun k hk => by omega
theorem Mv.far {sb NB : Nat} {w y z : World} (h : Mv (fun k => k = sb) w y) (k : Mv (fun k => k = sb ∨ k = NB) y z) (hn : w.heap.size ≤ NB) : Mv (fun k => k = sb) w z :=
  ⟨k.os.trans h.os, k.tape.trans h.tape, k.output.trans h.output, Nat.le_trans h.size k.size, fun i hi hs => (k.block i (Nat.lt_of_lt_of_le hi h.size) (by rintro (q | q); exact hs q; omega)).trans (h.block i hi hs)⟩
theorem own_sub {w : World} {B B' : Nat} {e : TypeId} {size : Nat} {v : Value} {n : Nat} {xs : List Value} (h : w.ownsRow B' e size v n xs) (hB : B ≤ B') : w.ownsRow B e size v n xs :=
  ⟨h.1, h.2.imp id fun ⟨g, cap, cur, h1, h2, h3⟩ => ⟨g, cap, cur, h1, Nat.le_trans hB h2, h3⟩⟩
theorem vchk_true {ty : Int} {nb vn : Bool} {n : Int} {s : ByteArray} (h : vchk ty nb vn n s = 0) : vchk ty true vn n s = 0 := by
  unfold vchk at h ⊢
  cases vn
  · simpa using h
  · simp only [if_true] at h ⊢
    split at h
    · exact absurd h (by decide)
    · split at h
      · exact absurd h (by decide)
      · rename_i h1 h2; rw [if_neg h1, if_neg h2]
set_option maxRecDepth 8000 in
set_option maxHeartbeats 4000000 in
theorem knode_any (sb : Nat) (r : List Int) (cv : Value) (cs : List Col) (key : Int) (I : Nat) (w : World) (hs : SrcAt w sb r) (hc : ColsAt w sb cv cs) (hty : ∀ j (h : j < cs.length), 1 ≤ (cs[j]'h).ty ∧ (cs[j]'h).ty ≤ 5) (h1 : 1 ≤ cs.length) (h12 : cs.length ≤ 12) (hI : I ≤ 100) :
    Calls Tryz.prog 49 #[.pointer (some ⟨sb, 0, none⟩), .agg #[cv, .int .i64 key], .int .i64 (I : Int)] w fun e w' => ∃ (d : Nod) (lv : Value) (r' : List Int), e = .returned (.agg #[.int .i64 d.op, .int .i64 d.col, .bool d.v.null, .int .i64 d.v.n, .string d.v.s, lv, .int .i64 d.a, .int .i64 d.b]) ∧ Moved sb w w' ∧ SrcAt w' sb r' ∧ w'.ownsRow w.heap.size 41 3 lv d.ls.length (d.ls.flatMap valC) ∧ d.ls.length ≤ 4 ∧ nodE cs (I : Int) d = 0 := by
  obtain ⟨i0, hi, hz0, hz1, hz2⟩ := info_parts infoVal
  obtain ⟨ca, cc, rfl⟩ := cols_end hc
  obtain ⟨n, hl⟩ : ∃ n, cs.length = n := ⟨_, rfl⟩
  have HL := Lib.hid hl
  have HC : Hid (ColsAt w sb (.slice ca n cc) cs) := Lib.hid (by rw [← hl]; exact hc)
  rw [hl] at h1 h12 ⊢
  have HT := Lib.hid hty
  have hsl := hs.lt
  have HS := Lib.hid hs
  clear hl hc hty hs
  have b11 := nextF_bd r (n := 11) (by decide)
  obtain ⟨op0, hop0⟩ : ∃ op0, 1 + (nextF 11 r).1 = op0 := ⟨_, rfl⟩
  have o1 : 1 ≤ op0 := by omega
  have o11 : op0 ≤ 11 := by omega
  have HO := Lib.hid hop0
  clear hop0
  go_enter Tryz.func49, Tryz.ntmps49
  go_upto_region 1 with fail
  refine captureM ?_
  intro y ey
  have ys : SrcAt y sb r := by rw [ey]; exact (HS.out.al _).al _
  have ym : Mv (fun k => k = sb) w y := by rw [ey]; exact ((Mv.refl _ _).al _).al _
  have yl : w.heap.size + 1 < y.heap.size := by rw [ey]; simp
  have yb0 : y.cell? ⟨w.heap.size, 0, none⟩ = some (.slice ca n cc) := by rw [ey]; simp (maxDischargeDepth := 9) [go_sem, *]
  have yb1 : y.cell? ⟨w.heap.size, 1, none⟩ = some (.int .i64 key) := by rw [ey]; simp (maxDischargeDepth := 9) [go_sem, *]
  have yr : ∀ j u, #[.int .i64 0, .int .i64 0, .bool false, .int .i64 0, .string ⟨#[]⟩, .slice none 0 0, .int .i64 0, .int .i64 0].toList[j]? = some u → y.cell? ⟨w.heap.size + 1, j, none⟩ = some u := by
    intro j u hu
    rw [ey, World.cell?_alloc_at _ _ _ _ (by simp)]
    simpa using hu
  have yf : ∀ j, y.frozen? ⟨w.heap.size + 1, j, none⟩ = false := by intro j; rw [ey]; simp [go_sem]
  clear ey
  go_upto_region 2 with (go_at_call 20; refine Calls.mono (next_11 _ r _ ys) ?_; rintro e w3 ⟨rfl, hm3, hs3⟩; obtain ⟨x3, rfl⟩ := ExtM.of hm3)
  rw [HO.out]
  refine captureM ?_
  intro z ez
  have zs : SrcAt z sb (nextF 11 r).2 := by rw [ez]; exact hs3.al _
  have zm : Mv (fun k => k = sb) w z := by rw [ez]; exact (ym.mv hm3 rfl).al _
  have xl : w.heap.size + 1 < x3.it.heap.size := x3.lt yl
  have zl : x3.it.heap.size < z.heap.size := by rw [ez]; simp
  have e0 : w.heap.size < y.heap.size := by omega
  have e1 : w.heap.size ≠ sb := by omega
  have e2 : w.heap.size + 1 ≠ sb := by omega
  have e3 : w.heap.size ≠ x3.it.heap.size := by omega
  have e4 : w.heap.size + 1 ≠ x3.it.heap.size := by omega
  have e5 : x3.it.heap.size ≠ sb := by omega
  have ymz : Mv (fun k => k = sb) y z := by rw [ez]; exact (Mv.of_moved (S := fun k => k = sb) hm3 rfl).al _
  have b0 := (ymz.cell 0 (b := w.heap.size) (by omega) e1).trans yb0
  have b1 := (ymz.cell 1 (b := w.heap.size) (by omega) e1).trans yb1
  have p0 := (ymz.cell 0 (b := w.heap.size + 1) (by omega) e2).trans (yr 0 (.int .i64 0) rfl)
  have f0 := (ymz.frozen 0 (b := w.heap.size + 1) (by omega) e2).trans (yf 0)
  have p1 := (ymz.cell 1 (b := w.heap.size + 1) (by omega) e2).trans (yr 1 (.int .i64 0) rfl)
  have f1 := (ymz.frozen 1 (b := w.heap.size + 1) (by omega) e2).trans (yf 1)
  have p2 := (ymz.cell 2 (b := w.heap.size + 1) (by omega) e2).trans (yr 2 (.bool false) rfl)
  have f2 := (ymz.frozen 2 (b := w.heap.size + 1) (by omega) e2).trans (yf 2)
  have p3 := (ymz.cell 3 (b := w.heap.size + 1) (by omega) e2).trans (yr 3 (.int .i64 0) rfl)
  have f3 := (ymz.frozen 3 (b := w.heap.size + 1) (by omega) e2).trans (yf 3)
  have p4 := (ymz.cell 4 (b := w.heap.size + 1) (by omega) e2).trans (yr 4 (.string ⟨#[]⟩) rfl)
  have f4 := (ymz.frozen 4 (b := w.heap.size + 1) (by omega) e2).trans (yf 4)
  have p5 := (ymz.cell 5 (b := w.heap.size + 1) (by omega) e2).trans (yr 5 (.slice none 0 0) rfl)
  have f5 := (ymz.frozen 5 (b := w.heap.size + 1) (by omega) e2).trans (yf 5)
  have p6 := (ymz.cell 6 (b := w.heap.size + 1) (by omega) e2).trans (yr 6 (.int .i64 0) rfl)
  have f6 := (ymz.frozen 6 (b := w.heap.size + 1) (by omega) e2).trans (yf 6)
  have p7 := (ymz.cell 7 (b := w.heap.size + 1) (by omega) e2).trans (yr 7 (.int .i64 0) rfl)
  have f7 := (ymz.frozen 7 (b := w.heap.size + 1) (by omega) e2).trans (yf 7)
  have q0 : z.cell? ⟨x3.it.heap.size, 0, none⟩ = some (.int .i64 op0) := by rw [ez]; simp (maxDischargeDepth := 9) [go_sem, *]
  have g0 : z.frozen? ⟨x3.it.heap.size, 0, none⟩ = false := by rw [ez]; simp (maxDischargeDepth := 9) [go_sem, *]
  have q1 : z.cell? ⟨x3.it.heap.size, 1, none⟩ = some (.int .i64 0) := by rw [ez]; simp (maxDischargeDepth := 9) [go_sem, *]
  have g1 : z.frozen? ⟨x3.it.heap.size, 1, none⟩ = false := by rw [ez]; simp (maxDischargeDepth := 9) [go_sem, *]
  have q2 : z.cell? ⟨x3.it.heap.size, 2, none⟩ = some (.bool false) := by rw [ez]; simp (maxDischargeDepth := 9) [go_sem, *]
  have g2 : z.frozen? ⟨x3.it.heap.size, 2, none⟩ = false := by rw [ez]; simp (maxDischargeDepth := 9) [go_sem, *]
  have q3 : z.cell? ⟨x3.it.heap.size, 3, none⟩ = some (.int .i64 0) := by rw [ez]; simp (maxDischargeDepth := 9) [go_sem, *]
  have g3 : z.frozen? ⟨x3.it.heap.size, 3, none⟩ = false := by rw [ez]; simp (maxDischargeDepth := 9) [go_sem, *]
  have q4 : z.cell? ⟨x3.it.heap.size, 4, none⟩ = some (.string ⟨#[]⟩) := by rw [ez]; simp (maxDischargeDepth := 9) [go_sem, *]
  have g4 : z.frozen? ⟨x3.it.heap.size, 4, none⟩ = false := by rw [ez]; simp (maxDischargeDepth := 9) [go_sem, *]
  have q5 : z.cell? ⟨x3.it.heap.size, 5, none⟩ = some (.slice none 0 0) := by rw [ez]; simp (maxDischargeDepth := 9) [go_sem, *]
  have g5 : z.frozen? ⟨x3.it.heap.size, 5, none⟩ = false := by rw [ez]; simp (maxDischargeDepth := 9) [go_sem, *]
  have q6 : z.cell? ⟨x3.it.heap.size, 6, none⟩ = some (.int .i64 0) := by rw [ez]; simp (maxDischargeDepth := 9) [go_sem, *]
  have g6 : z.frozen? ⟨x3.it.heap.size, 6, none⟩ = false := by rw [ez]; simp (maxDischargeDepth := 9) [go_sem, *]
  have q7 : z.cell? ⟨x3.it.heap.size, 7, none⟩ = some (.int .i64 0) := by rw [ez]; simp (maxDischargeDepth := 9) [go_sem, *]
  have g7 : z.frozen? ⟨x3.it.heap.size, 7, none⟩ = false := by rw [ez]; simp (maxDischargeDepth := 9) [go_sem, *]
  clear ez yr yf yb0 yb1 ys hm3 hs3 e0 ym ymz
  generalize x3.it.heap.size = NB at *
  clear x3
  have hnw : w.heap.size < z.heap.size := by omega
  have hnw1 : w.heap.size + 1 < z.heap.size := by omega
  by_cases o9 : 9 ≤ op0
  · by_cases hI0 : I = 0
    · subst hI0
      have hKb := nextF_bd (nextF 11 r).2 (n := (n : Int)) (by omega)
      generalize hr2 : (nextF 11 r).2 = r2 at *
      obtain ⟨K, hK⟩ : ∃ K : Nat, (nextF (n : Int) r2).1 = K := ⟨(nextF (n : Int) r2).1.toNat, by omega⟩
      have Kn : K < n := by omega
      have KnI : (K : Int) < (n : Int) := by omega
      have Kl : K < cs.length := by rw [HL.out]; exact Kn
      obtain ⟨cb, co, rfl, hcap, hcb, c0, c1, c2, c3⟩ := cols_in HC.out Kl
      have TK := HT.out K Kl
      obtain ⟨d, hd⟩ : ∃ d, cs[K]'Kl = d := ⟨_, rfl⟩
      have HD := Lib.hid hd
      rw [hd] at c0 c1 c2 c3 TK
      obtain ⟨cn, ty, sc, nul⟩ := d
      dsimp only at c0 c1 c2 c3 TK
      have HK := Lib.hid hK
      have bn : ¬ cb = sb := by omega
      have bw : cb < w.heap.size := by omega
      clear hK hKb hd
      go_upto_region 10 with (go_at_call 20; refine Calls.mono (next_any _ r2 (n : Int) (by omega) (by omega) _ ?_) ?_; (focus (repeat (first | with_reducible assumption | with_reducible refine SrcAt.al ?_ _ | with_reducible refine SrcAt.drew ?_ | with_reducible refine SrcAt.stn ?_ (by first | (simp; done) | (simp; omega)) _))); rintro e w3 ⟨rfl, hm3, hs3⟩; rw [HK.out]; have hmw : Mv (fun k => k = sb) w w3 := Mv.mv (by repeat (first | with_reducible exact Mv.refl _ _ | with_reducible assumption | with_reducible refine Mv.al ?_ _ | with_reducible refine Mv.drew ?_ | with_reducible refine Mv.st ?_ (.inr (by first | (simp; done) | (simp; omega))) _)) hm3 rfl; obtain ⟨x3, rfl⟩ := ExtM.of hm3)
      have u1 := x3.lt (n := w.heap.size + 1) (by simpa using hnw1)
      have u0 : w.heap.size < x3.it.heap.size := by omega
      have u2 := x3.lt (n := NB) (by simpa using zl)
      have u3 : cb < x3.it.heap.size := by omega
      have ncb : cb ≠ NB := by omega
      have k0 := (hmw.cell (co + K * 4) bw bn).trans c0
      have k1 := (hmw.cell (co + K * 4 + 1) bw bn).trans c1
      have k2 := (hmw.cell (co + K * 4 + 2) bw bn).trans c2
      have k3 := (hmw.cell (co + K * 4 + 3) bw bn).trans c3
      clear c0 c1 c2 c3
      go_upto_region 13  with fail
      refine captureM ?_
      intro v ev
      have vm : Mv (fun k => k = sb) w v := by rw [ev]; repeat (first | with_reducible exact Mv.refl _ _ | with_reducible assumption | with_reducible refine Mv.al ?_ _ | with_reducible refine Mv.drew ?_ | with_reducible refine Mv.st ?_ (.inr (by first | (simp; done) | (simp; omega))) _)
      have vsr : SrcAt v sb (nextF (n : Int) r2).2 := by rw [ev]; repeat (first | with_reducible assumption | with_reducible refine SrcAt.al ?_ _ | with_reducible refine SrcAt.drew ?_ | with_reducible refine SrcAt.stn ?_ (by first | (simp; done) | (simp; omega)) _)
      have l1 : w.heap.size + 1 < v.heap.size := by rw [ev]; simp; omega
      have l2 : NB < v.heap.size := by rw [ev]; simp; omega
      have l3 : x3.it.heap.size < v.heap.size := by rw [ev]; simp
      have ncx : x3.it.heap.size ≠ NB := by omega
      have ncx' : NB ≠ x3.it.heap.size := by omega
      have ncy : x3.it.heap.size ≠ sb := by omega
      have ncz : w.heap.size + 1 ≠ x3.it.heap.size := by omega
      have w0 : v.cell? ⟨NB, 0, none⟩ = some (.int .i64 (op0 - 8)) := by rw [ev]; simp (maxDischargeDepth := 9) [go_sem, *]
      have w1 : v.cell? ⟨NB, 1, none⟩ = some (.int .i64 (K : Int)) := by rw [ev]; simp (maxDischargeDepth := 9) [go_sem, *]
      have w2 : v.cell? ⟨NB, 2, none⟩ = some (.bool false) := by rw [ev]; simp (maxDischargeDepth := 9) [go_sem, *]
      have w3 : v.cell? ⟨NB, 3, none⟩ = some (.int .i64 0) := by rw [ev]; simp (maxDischargeDepth := 9) [go_sem, *]
      have w4 : v.cell? ⟨NB, 4, none⟩ = some (.string ⟨#[]⟩) := by rw [ev]; simp (maxDischargeDepth := 9) [go_sem, *]
      have w5 : v.cell? ⟨NB, 5, none⟩ = some (.slice none 0 0) := by rw [ev]; simp (maxDischargeDepth := 9) [go_sem, *]
      have w6 : v.cell? ⟨NB, 6, none⟩ = some (.int .i64 0) := by rw [ev]; simp (maxDischargeDepth := 9) [go_sem, *]
      have w7 : v.cell? ⟨NB, 7, none⟩ = some (.int .i64 0) := by rw [ev]; simp (maxDischargeDepth := 9) [go_sem, *]
      have wf2 : v.frozen? ⟨NB, 2, none⟩ = false := by rw [ev]; simp (maxDischargeDepth := 9) [go_sem, *]
      have wf3 : v.frozen? ⟨NB, 3, none⟩ = false := by rw [ev]; simp (maxDischargeDepth := 9) [go_sem, *]
      have wf4 : v.frozen? ⟨NB, 4, none⟩ = false := by rw [ev]; simp (maxDischargeDepth := 9) [go_sem, *]
      have wf5 : v.frozen? ⟨NB, 5, none⟩ = false := by rw [ev]; simp (maxDischargeDepth := 9) [go_sem, *]
      have r0' : v.cell? ⟨w.heap.size + 1, 0, none⟩ = some (.int .i64 0) := by rw [ev]; simp (maxDischargeDepth := 9) [go_sem, *]
      have rf0' : v.frozen? ⟨w.heap.size + 1, 0, none⟩ = false := by rw [ev]; simp (maxDischargeDepth := 9) [go_sem, *]
      have r1' : v.cell? ⟨w.heap.size + 1, 1, none⟩ = some (.int .i64 0) := by rw [ev]; simp (maxDischargeDepth := 9) [go_sem, *]
      have rf1' : v.frozen? ⟨w.heap.size + 1, 1, none⟩ = false := by rw [ev]; simp (maxDischargeDepth := 9) [go_sem, *]
      have r2' : v.cell? ⟨w.heap.size + 1, 2, none⟩ = some (.bool false) := by rw [ev]; simp (maxDischargeDepth := 9) [go_sem, *]
      have rf2' : v.frozen? ⟨w.heap.size + 1, 2, none⟩ = false := by rw [ev]; simp (maxDischargeDepth := 9) [go_sem, *]
      have r3' : v.cell? ⟨w.heap.size + 1, 3, none⟩ = some (.int .i64 0) := by rw [ev]; simp (maxDischargeDepth := 9) [go_sem, *]
      have rf3' : v.frozen? ⟨w.heap.size + 1, 3, none⟩ = false := by rw [ev]; simp (maxDischargeDepth := 9) [go_sem, *]
      have r4' : v.cell? ⟨w.heap.size + 1, 4, none⟩ = some (.string ⟨#[]⟩) := by rw [ev]; simp (maxDischargeDepth := 9) [go_sem, *]
      have rf4' : v.frozen? ⟨w.heap.size + 1, 4, none⟩ = false := by rw [ev]; simp (maxDischargeDepth := 9) [go_sem, *]
      have r5' : v.cell? ⟨w.heap.size + 1, 5, none⟩ = some (.slice none 0 0) := by rw [ev]; simp (maxDischargeDepth := 9) [go_sem, *]
      have rf5' : v.frozen? ⟨w.heap.size + 1, 5, none⟩ = false := by rw [ev]; simp (maxDischargeDepth := 9) [go_sem, *]
      have r6' : v.cell? ⟨w.heap.size + 1, 6, none⟩ = some (.int .i64 0) := by rw [ev]; simp (maxDischargeDepth := 9) [go_sem, *]
      have rf6' : v.frozen? ⟨w.heap.size + 1, 6, none⟩ = false := by rw [ev]; simp (maxDischargeDepth := 9) [go_sem, *]
      have r7' : v.cell? ⟨w.heap.size + 1, 7, none⟩ = some (.int .i64 0) := by rw [ev]; simp (maxDischargeDepth := 9) [go_sem, *]
      have rf7' : v.frozen? ⟨w.heap.size + 1, 7, none⟩ = false := by rw [ev]; simp (maxDischargeDepth := 9) [go_sem, *]
      have cl0 : v.cell? ⟨x3.it.heap.size, 0, none⟩ = some (.string cn) := by rw [ev]; simp (maxDischargeDepth := 9) [go_sem, *]
      have cl1 : v.cell? ⟨x3.it.heap.size, 1, none⟩ = some (.int .i64 ty) := by rw [ev]; simp (maxDischargeDepth := 9) [go_sem, *]
      have cl2 : v.cell? ⟨x3.it.heap.size, 2, none⟩ = some (.int .i64 sc) := by rw [ev]; simp (maxDischargeDepth := 9) [go_sem, *]
      have cl3 : v.cell? ⟨x3.it.heap.size, 3, none⟩ = some (.bool false) := by rw [ev]; simp (maxDischargeDepth := 9) [go_sem, *]
      have clf : v.frozen? ⟨x3.it.heap.size, 3, none⟩ = false := by rw [ev]; simp (maxDischargeDepth := 9) [go_sem, *]
      clear ev k0 k1 k2 k3 b0 b1 p0 p1 p2 p3 p4 p5 p6 p7 f0 f1 f2 f3 f4 f5 f6 f7 q0 q1 q2 q3 q4 q5 q6 q7 g0 g1 g2 g3 g4 g5 g6 g7 zs zm u0 u1 u2 u3 hmw hm3 hs3
      generalize x3.it.heap.size = CB at *
      clear x3
      have VNN := valF_notnull ty (nextF (n : Int) r2).2
      have VOK := valF_ok (ty := ty) false (nextF (n : Int) r2).2 TK.1 TK.2
      obtain ⟨⟨⟨vn, vi, vS⟩, rr⟩, hv0⟩ : ∃ p, valF ty false (nextF (n : Int) r2).2 = p := ⟨_, rfl⟩
      rw [hv0] at VNN VOK
      dsimp only at VNN VOK
      subst VNN
      have hv := Lib.hid hv0
      have HVK := Lib.hid VOK
      clear hv0 VOK
      go_wp2_with (go_at_call 50; refine Calls.mono (value_eq hv.out sb cn sc _ vsr) ?_; rintro e w4 ⟨rfl, hm4, hs4⟩; have hmw4 : Mv (fun k => k = sb) w w4 := Mv.mv (by repeat (first | with_reducible exact Mv.refl _ _ | with_reducible assumption | with_reducible refine Mv.al ?_ _ | with_reducible refine Mv.drew ?_ | with_reducible refine Mv.st ?_ (.inr (by first | (simp; done) | (simp; omega))) _)) hm4 rfl; obtain ⟨x4, rfl⟩ := ExtM.of hm4; have d1 := x4.lt l1; have d2 := x4.lt l2)
      refine bodyPost_ret (v := .agg #[.int .i64 (op0 - 8), .int .i64 (K : Int), .bool false, .int .i64 vi, .string vS, .slice none 0 0, .int .i64 0, .int .i64 0]) ?_ rfl ⟨⟨op0 - 8, K, ⟨false, vi, vS⟩, [], 0, 0⟩, .slice none 0 0, rr, rfl, ?_, ?_, World.ownsRow_nil _ _ _ _, by simp, nodE_cmp Kl (by omega) (by omega) (by rw [HD.out]; exact HVK.out)⟩
      · simp (maxDischargeDepth := 9) [results, Tryz.results49, go_sem, *]
      · refine Mv.moved ?_; repeat (first | with_reducible exact Mv.refl _ _ | with_reducible assumption | with_reducible refine Mv.al ?_ _ | with_reducible refine Mv.drew ?_ | with_reducible refine Mv.st ?_ (.inr (by first | (simp; done) | (simp; omega))) _)
      · repeat (first | with_reducible assumption | with_reducible refine SrcAt.al ?_ _ | with_reducible refine SrcAt.drew ?_ | with_reducible refine SrcAt.stn ?_ (by first | (simp; done) | (simp; omega)) _)
    · have i1 : (1 : Int) ≤ (I : Int) := by omega
      have iz : ((I : Int) == 0) = false := by simp; omega
      have iz' : ¬ (I : Int) = 0 := by omega
      by_cases i3 : (3 : Int) < (I : Int)
      · have zr := nextF_bd (nextF 11 r).2 (n := 3) (by omega)
        generalize hr2 : (nextF 11 r).2 = r2 at *
        go_upto_region 6 with (go_at_call 20; refine Calls.mono (next_any _ _ _ (by omega) (by omega) _ zs) ?_; rintro e w3 ⟨rfl, hm3, hs3⟩; have hmw : Mv (fun k => k = sb) w w3 := zm.mv hm3 rfl; obtain ⟨x3, rfl⟩ := ExtM.of hm3)
        obtain ⟨xa, hxa⟩ : ∃ xa, (nextF 3 r2).1 = xa := ⟨_, rfl⟩
        rw [hxa] at zr ⊢
        clear hxa
        have c1 := x3.lt hnw1
        have c2 := x3.lt zl
        by_cases o11' : op0 = 11
        · have q11 : (op0 != 11) = false := by simpa using o11'
          go_wp2
          refine bodyPost_ret (v := .agg #[.int .i64 op0, .int .i64 0, .bool false, .int .i64 0, .string ⟨#[]⟩, .slice none 0 0, .int .i64 ((I : Int) - 1 - xa), .int .i64 0]) ?_ rfl ⟨⟨op0, 0, ⟨false, 0, ⟨#[]⟩⟩, [], (I : Int) - 1 - xa, 0⟩, .slice none 0 0, (nextF 3 r2).2, rfl, ?_, ?_, World.ownsRow_nil _ _ _ _, by simp, nodE_logic o9 o11 (by omega) (by omega) (fun q => absurd o11' q)⟩
          · simp (maxDischargeDepth := 9) [results, Tryz.results49, go_sem, *]
          · refine Mv.moved ?_; repeat (first | with_reducible exact Mv.refl _ _ | with_reducible assumption | with_reducible refine Mv.al ?_ _ | with_reducible refine Mv.drew ?_ | with_reducible refine Mv.st ?_ (.inr (by first | (simp; done) | (simp; omega))) _)
          · repeat (first | with_reducible assumption | with_reducible refine SrcAt.al ?_ _ | with_reducible refine SrcAt.drew ?_ | with_reducible refine SrcAt.stn ?_ (by first | (simp; done) | (simp; omega)) _)
        · have q11 : (op0 != 11) = true := by simpa using o11'
          have zr2 := nextF_bd (nextF 3 r2).2 (n := (I : Int)) (by omega)
          go_wp2_with (go_at_call 20; refine Calls.mono (next_any _ (nextF 3 r2).2 (I : Int) (by omega) (by omega) _ ?_) ?_; (focus (repeat (first | with_reducible assumption | with_reducible refine SrcAt.al ?_ _ | with_reducible refine SrcAt.drew ?_ | with_reducible refine SrcAt.stn ?_ (by first | (simp; done) | (simp; omega)) _))); rintro e w4 ⟨rfl, hm4, hs4⟩; have hmw4 : Mv (fun k => k = sb) w w4 := Mv.mv (by repeat (first | with_reducible exact Mv.refl _ _ | with_reducible assumption | with_reducible refine Mv.al ?_ _ | with_reducible refine Mv.drew ?_ | with_reducible refine Mv.st ?_ (.inr (by first | (simp; done) | (simp; omega))) _)) hm4 rfl; obtain ⟨x4, rfl⟩ := ExtM.of hm4; have d1 := x4.lt (n := w.heap.size + 1) (by simpa using c1); have d2 := x4.lt (n := NB) (by simpa using c2))
          refine bodyPost_ret (v := .agg #[.int .i64 op0, .int .i64 0, .bool false, .int .i64 0, .string ⟨#[]⟩, .slice none 0 0, .int .i64 ((I : Int) - 1 - xa), .int .i64 ((I : Int) - 1 - (nextF (I : Int) (nextF 3 r2).2).1)]) ?_ rfl ⟨⟨op0, 0, ⟨false, 0, ⟨#[]⟩⟩, [], (I : Int) - 1 - xa, (I : Int) - 1 - (nextF (I : Int) (nextF 3 r2).2).1⟩, .slice none 0 0, (nextF (I : Int) (nextF 3 r2).2).2, rfl, ?_, ?_, World.ownsRow_nil _ _ _ _, by simp, nodE_logic o9 o11 (by omega) (by omega) (fun _ => by omega)⟩
          · simp (maxDischargeDepth := 9) [results, Tryz.results49, go_sem, *]
          · refine Mv.moved ?_; repeat (first | with_reducible exact Mv.refl _ _ | with_reducible assumption | with_reducible refine Mv.al ?_ _ | with_reducible refine Mv.drew ?_ | with_reducible refine Mv.st ?_ (.inr (by first | (simp; done) | (simp; omega))) _)
          · repeat (first | with_reducible assumption | with_reducible refine SrcAt.al ?_ _ | with_reducible refine SrcAt.drew ?_ | with_reducible refine SrcAt.stn ?_ (by first | (simp; done) | (simp; omega)) _)
      · have zr := nextF_bd (nextF 11 r).2 (n := (I : Int)) (by omega)
        generalize hr2 : (nextF 11 r).2 = r2 at *
        go_upto_region 6 with (go_at_call 20; refine Calls.mono (next_any _ _ _ (by omega) (by omega) _ zs) ?_; rintro e w3 ⟨rfl, hm3, hs3⟩; have hmw : Mv (fun k => k = sb) w w3 := zm.mv hm3 rfl; obtain ⟨x3, rfl⟩ := ExtM.of hm3)
        obtain ⟨xa, hxa⟩ : ∃ xa, (nextF (I : Int) r2).1 = xa := ⟨_, rfl⟩
        rw [hxa] at zr ⊢
        clear hxa
        have c1 := x3.lt hnw1
        have c2 := x3.lt zl
        by_cases o11' : op0 = 11
        · have q11 : (op0 != 11) = false := by simpa using o11'
          go_wp2
          refine bodyPost_ret (v := .agg #[.int .i64 op0, .int .i64 0, .bool false, .int .i64 0, .string ⟨#[]⟩, .slice none 0 0, .int .i64 ((I : Int) - 1 - xa), .int .i64 0]) ?_ rfl ⟨⟨op0, 0, ⟨false, 0, ⟨#[]⟩⟩, [], (I : Int) - 1 - xa, 0⟩, .slice none 0 0, (nextF (I : Int) r2).2, rfl, ?_, ?_, World.ownsRow_nil _ _ _ _, by simp, nodE_logic o9 o11 (by omega) (by omega) (fun q => absurd o11' q)⟩
          · simp (maxDischargeDepth := 9) [results, Tryz.results49, go_sem, *]
          · refine Mv.moved ?_; repeat (first | with_reducible exact Mv.refl _ _ | with_reducible assumption | with_reducible refine Mv.al ?_ _ | with_reducible refine Mv.drew ?_ | with_reducible refine Mv.st ?_ (.inr (by first | (simp; done) | (simp; omega))) _)
          · repeat (first | with_reducible assumption | with_reducible refine SrcAt.al ?_ _ | with_reducible refine SrcAt.drew ?_ | with_reducible refine SrcAt.stn ?_ (by first | (simp; done) | (simp; omega)) _)
        · have q11 : (op0 != 11) = true := by simpa using o11'
          have zr2 := nextF_bd (nextF (I : Int) r2).2 (n := (I : Int)) (by omega)
          go_wp2_with (go_at_call 20; refine Calls.mono (next_any _ (nextF (I : Int) r2).2 (I : Int) (by omega) (by omega) _ ?_) ?_; (focus (repeat (first | with_reducible assumption | with_reducible refine SrcAt.al ?_ _ | with_reducible refine SrcAt.drew ?_ | with_reducible refine SrcAt.stn ?_ (by first | (simp; done) | (simp; omega)) _))); rintro e w4 ⟨rfl, hm4, hs4⟩; have hmw4 : Mv (fun k => k = sb) w w4 := Mv.mv (by repeat (first | with_reducible exact Mv.refl _ _ | with_reducible assumption | with_reducible refine Mv.al ?_ _ | with_reducible refine Mv.drew ?_ | with_reducible refine Mv.st ?_ (.inr (by first | (simp; done) | (simp; omega))) _)) hm4 rfl; obtain ⟨x4, rfl⟩ := ExtM.of hm4; have d1 := x4.lt (n := w.heap.size + 1) (by simpa using c1); have d2 := x4.lt (n := NB) (by simpa using c2))
          refine bodyPost_ret (v := .agg #[.int .i64 op0, .int .i64 0, .bool false, .int .i64 0, .string ⟨#[]⟩, .slice none 0 0, .int .i64 ((I : Int) - 1 - xa), .int .i64 ((I : Int) - 1 - (nextF (I : Int) (nextF (I : Int) r2).2).1)]) ?_ rfl ⟨⟨op0, 0, ⟨false, 0, ⟨#[]⟩⟩, [], (I : Int) - 1 - xa, (I : Int) - 1 - (nextF (I : Int) (nextF (I : Int) r2).2).1⟩, .slice none 0 0, (nextF (I : Int) (nextF (I : Int) r2).2).2, rfl, ?_, ?_, World.ownsRow_nil _ _ _ _, by simp, nodE_logic o9 o11 (by omega) (by omega) (fun _ => by omega)⟩
          · simp (maxDischargeDepth := 9) [results, Tryz.results49, go_sem, *]
          · refine Mv.moved ?_; repeat (first | with_reducible exact Mv.refl _ _ | with_reducible assumption | with_reducible refine Mv.al ?_ _ | with_reducible refine Mv.drew ?_ | with_reducible refine Mv.st ?_ (.inr (by first | (simp; done) | (simp; omega))) _)
          · repeat (first | with_reducible assumption | with_reducible refine SrcAt.al ?_ _ | with_reducible refine SrcAt.drew ?_ | with_reducible refine SrcAt.stn ?_ (by first | (simp; done) | (simp; omega)) _)
  · by_cases o6 : op0 ≤ 6
    · skip
      have hKb := nextF_bd (nextF 11 r).2 (n := (n : Int)) (by omega)
      generalize hr2 : (nextF 11 r).2 = r2 at *
      obtain ⟨K, hK⟩ : ∃ K : Nat, (nextF (n : Int) r2).1 = K := ⟨(nextF (n : Int) r2).1.toNat, by omega⟩
      have Kn : K < n := by omega
      have KnI : (K : Int) < (n : Int) := by omega
      have Kl : K < cs.length := by rw [HL.out]; exact Kn
      obtain ⟨cb, co, rfl, hcap, hcb, c0, c1, c2, c3⟩ := cols_in HC.out Kl
      have TK := HT.out K Kl
      obtain ⟨d, hd⟩ : ∃ d, cs[K]'Kl = d := ⟨_, rfl⟩
      have HD := Lib.hid hd
      rw [hd] at c0 c1 c2 c3 TK
      obtain ⟨cn, ty, sc, nul⟩ := d
      dsimp only at c0 c1 c2 c3 TK
      have HK := Lib.hid hK
      have bn : ¬ cb = sb := by omega
      have bw : cb < w.heap.size := by omega
      clear hK hKb hd
      go_upto_region 10 with (go_at_call 20; refine Calls.mono (next_any _ r2 (n : Int) (by omega) (by omega) _ ?_) ?_; (focus (repeat (first | with_reducible assumption | with_reducible refine SrcAt.al ?_ _ | with_reducible refine SrcAt.drew ?_ | with_reducible refine SrcAt.stn ?_ (by first | (simp; done) | (simp; omega)) _))); rintro e w3 ⟨rfl, hm3, hs3⟩; rw [HK.out]; have hmw : Mv (fun k => k = sb) w w3 := Mv.mv (by repeat (first | with_reducible exact Mv.refl _ _ | with_reducible assumption | with_reducible refine Mv.al ?_ _ | with_reducible refine Mv.drew ?_ | with_reducible refine Mv.st ?_ (.inr (by first | (simp; done) | (simp; omega))) _)) hm3 rfl; obtain ⟨x3, rfl⟩ := ExtM.of hm3)
      have u1 := x3.lt (n := w.heap.size + 1) (by simpa using hnw1)
      have u0 : w.heap.size < x3.it.heap.size := by omega
      have u2 := x3.lt (n := NB) (by simpa using zl)
      have u3 : cb < x3.it.heap.size := by omega
      have ncb : cb ≠ NB := by omega
      have k0 := (hmw.cell (co + K * 4) bw bn).trans c0
      have k1 := (hmw.cell (co + K * 4 + 1) bw bn).trans c1
      have k2 := (hmw.cell (co + K * 4 + 2) bw bn).trans c2
      have k3 := (hmw.cell (co + K * 4 + 3) bw bn).trans c3
      clear c0 c1 c2 c3
      go_upto_region 13  with fail
      refine captureM ?_
      intro v ev
      have vm : Mv (fun k => k = sb) w v := by rw [ev]; repeat (first | with_reducible exact Mv.refl _ _ | with_reducible assumption | with_reducible refine Mv.al ?_ _ | with_reducible refine Mv.drew ?_ | with_reducible refine Mv.st ?_ (.inr (by first | (simp; done) | (simp; omega))) _)
      have vsr : SrcAt v sb (nextF (n : Int) r2).2 := by rw [ev]; repeat (first | with_reducible assumption | with_reducible refine SrcAt.al ?_ _ | with_reducible refine SrcAt.drew ?_ | with_reducible refine SrcAt.stn ?_ (by first | (simp; done) | (simp; omega)) _)
      have l1 : w.heap.size + 1 < v.heap.size := by rw [ev]; simp; omega
      have l2 : NB < v.heap.size := by rw [ev]; simp; omega
      have l3 : x3.it.heap.size < v.heap.size := by rw [ev]; simp
      have ncx : x3.it.heap.size ≠ NB := by omega
      have ncx' : NB ≠ x3.it.heap.size := by omega
      have ncy : x3.it.heap.size ≠ sb := by omega
      have ncz : w.heap.size + 1 ≠ x3.it.heap.size := by omega
      have w0 : v.cell? ⟨NB, 0, none⟩ = some (.int .i64 (op0)) := by rw [ev]; simp (maxDischargeDepth := 9) [go_sem, *]
      have w1 : v.cell? ⟨NB, 1, none⟩ = some (.int .i64 (K : Int)) := by rw [ev]; simp (maxDischargeDepth := 9) [go_sem, *]
      have w2 : v.cell? ⟨NB, 2, none⟩ = some (.bool false) := by rw [ev]; simp (maxDischargeDepth := 9) [go_sem, *]
      have w3 : v.cell? ⟨NB, 3, none⟩ = some (.int .i64 0) := by rw [ev]; simp (maxDischargeDepth := 9) [go_sem, *]
      have w4 : v.cell? ⟨NB, 4, none⟩ = some (.string ⟨#[]⟩) := by rw [ev]; simp (maxDischargeDepth := 9) [go_sem, *]
      have w5 : v.cell? ⟨NB, 5, none⟩ = some (.slice none 0 0) := by rw [ev]; simp (maxDischargeDepth := 9) [go_sem, *]
      have w6 : v.cell? ⟨NB, 6, none⟩ = some (.int .i64 0) := by rw [ev]; simp (maxDischargeDepth := 9) [go_sem, *]
      have w7 : v.cell? ⟨NB, 7, none⟩ = some (.int .i64 0) := by rw [ev]; simp (maxDischargeDepth := 9) [go_sem, *]
      have wf2 : v.frozen? ⟨NB, 2, none⟩ = false := by rw [ev]; simp (maxDischargeDepth := 9) [go_sem, *]
      have wf3 : v.frozen? ⟨NB, 3, none⟩ = false := by rw [ev]; simp (maxDischargeDepth := 9) [go_sem, *]
      have wf4 : v.frozen? ⟨NB, 4, none⟩ = false := by rw [ev]; simp (maxDischargeDepth := 9) [go_sem, *]
      have wf5 : v.frozen? ⟨NB, 5, none⟩ = false := by rw [ev]; simp (maxDischargeDepth := 9) [go_sem, *]
      have r0' : v.cell? ⟨w.heap.size + 1, 0, none⟩ = some (.int .i64 0) := by rw [ev]; simp (maxDischargeDepth := 9) [go_sem, *]
      have rf0' : v.frozen? ⟨w.heap.size + 1, 0, none⟩ = false := by rw [ev]; simp (maxDischargeDepth := 9) [go_sem, *]
      have r1' : v.cell? ⟨w.heap.size + 1, 1, none⟩ = some (.int .i64 0) := by rw [ev]; simp (maxDischargeDepth := 9) [go_sem, *]
      have rf1' : v.frozen? ⟨w.heap.size + 1, 1, none⟩ = false := by rw [ev]; simp (maxDischargeDepth := 9) [go_sem, *]
      have r2' : v.cell? ⟨w.heap.size + 1, 2, none⟩ = some (.bool false) := by rw [ev]; simp (maxDischargeDepth := 9) [go_sem, *]
      have rf2' : v.frozen? ⟨w.heap.size + 1, 2, none⟩ = false := by rw [ev]; simp (maxDischargeDepth := 9) [go_sem, *]
      have r3' : v.cell? ⟨w.heap.size + 1, 3, none⟩ = some (.int .i64 0) := by rw [ev]; simp (maxDischargeDepth := 9) [go_sem, *]
      have rf3' : v.frozen? ⟨w.heap.size + 1, 3, none⟩ = false := by rw [ev]; simp (maxDischargeDepth := 9) [go_sem, *]
      have r4' : v.cell? ⟨w.heap.size + 1, 4, none⟩ = some (.string ⟨#[]⟩) := by rw [ev]; simp (maxDischargeDepth := 9) [go_sem, *]
      have rf4' : v.frozen? ⟨w.heap.size + 1, 4, none⟩ = false := by rw [ev]; simp (maxDischargeDepth := 9) [go_sem, *]
      have r5' : v.cell? ⟨w.heap.size + 1, 5, none⟩ = some (.slice none 0 0) := by rw [ev]; simp (maxDischargeDepth := 9) [go_sem, *]
      have rf5' : v.frozen? ⟨w.heap.size + 1, 5, none⟩ = false := by rw [ev]; simp (maxDischargeDepth := 9) [go_sem, *]
      have r6' : v.cell? ⟨w.heap.size + 1, 6, none⟩ = some (.int .i64 0) := by rw [ev]; simp (maxDischargeDepth := 9) [go_sem, *]
      have rf6' : v.frozen? ⟨w.heap.size + 1, 6, none⟩ = false := by rw [ev]; simp (maxDischargeDepth := 9) [go_sem, *]
      have r7' : v.cell? ⟨w.heap.size + 1, 7, none⟩ = some (.int .i64 0) := by rw [ev]; simp (maxDischargeDepth := 9) [go_sem, *]
      have rf7' : v.frozen? ⟨w.heap.size + 1, 7, none⟩ = false := by rw [ev]; simp (maxDischargeDepth := 9) [go_sem, *]
      have cl0 : v.cell? ⟨x3.it.heap.size, 0, none⟩ = some (.string cn) := by rw [ev]; simp (maxDischargeDepth := 9) [go_sem, *]
      have cl1 : v.cell? ⟨x3.it.heap.size, 1, none⟩ = some (.int .i64 ty) := by rw [ev]; simp (maxDischargeDepth := 9) [go_sem, *]
      have cl2 : v.cell? ⟨x3.it.heap.size, 2, none⟩ = some (.int .i64 sc) := by rw [ev]; simp (maxDischargeDepth := 9) [go_sem, *]
      have cl3 : v.cell? ⟨x3.it.heap.size, 3, none⟩ = some (.bool false) := by rw [ev]; simp (maxDischargeDepth := 9) [go_sem, *]
      have clf : v.frozen? ⟨x3.it.heap.size, 3, none⟩ = false := by rw [ev]; simp (maxDischargeDepth := 9) [go_sem, *]
      clear ev k0 k1 k2 k3 b0 b1 p0 p1 p2 p3 p4 p5 p6 p7 f0 f1 f2 f3 f4 f5 f6 f7 q0 q1 q2 q3 q4 q5 q6 q7 g0 g1 g2 g3 g4 g5 g6 g7 zs zm u0 u1 u2 u3 hmw hm3 hs3
      generalize x3.it.heap.size = CB at *
      clear x3
      have VNN := valF_notnull ty (nextF (n : Int) r2).2
      have VOK := valF_ok (ty := ty) false (nextF (n : Int) r2).2 TK.1 TK.2
      obtain ⟨⟨⟨vn, vi, vS⟩, rr⟩, hv0⟩ : ∃ p, valF ty false (nextF (n : Int) r2).2 = p := ⟨_, rfl⟩
      rw [hv0] at VNN VOK
      dsimp only at VNN VOK
      subst VNN
      have hv := Lib.hid hv0
      have HVK := Lib.hid VOK
      clear hv0 VOK
      go_wp2_with (go_at_call 50; refine Calls.mono (value_eq hv.out sb cn sc _ vsr) ?_; rintro e w4 ⟨rfl, hm4, hs4⟩; have hmw4 : Mv (fun k => k = sb) w w4 := Mv.mv (by repeat (first | with_reducible exact Mv.refl _ _ | with_reducible assumption | with_reducible refine Mv.al ?_ _ | with_reducible refine Mv.drew ?_ | with_reducible refine Mv.st ?_ (.inr (by first | (simp; done) | (simp; omega))) _)) hm4 rfl; obtain ⟨x4, rfl⟩ := ExtM.of hm4; have d1 := x4.lt l1; have d2 := x4.lt l2)
      refine bodyPost_ret (v := .agg #[.int .i64 (op0), .int .i64 (K : Int), .bool false, .int .i64 vi, .string vS, .slice none 0 0, .int .i64 0, .int .i64 0]) ?_ rfl ⟨⟨op0, K, ⟨false, vi, vS⟩, [], 0, 0⟩, .slice none 0 0, rr, rfl, ?_, ?_, World.ownsRow_nil _ _ _ _, by simp, nodE_cmp Kl (by omega) (by omega) (by rw [HD.out]; exact HVK.out)⟩
      · simp (maxDischargeDepth := 9) [results, Tryz.results49, go_sem, *]
      · refine Mv.moved ?_; repeat (first | with_reducible exact Mv.refl _ _ | with_reducible assumption | with_reducible refine Mv.al ?_ _ | with_reducible refine Mv.drew ?_ | with_reducible refine Mv.st ?_ (.inr (by first | (simp; done) | (simp; omega))) _)
      · repeat (first | with_reducible assumption | with_reducible refine SrcAt.al ?_ _ | with_reducible refine SrcAt.drew ?_ | with_reducible refine SrcAt.stn ?_ (by first | (simp; done) | (simp; omega)) _)
    · by_cases o7 : op0 = 7
      · skip
        have hKb := nextF_bd (nextF 11 r).2 (n := (n : Int)) (by omega)
        generalize hr2 : (nextF 11 r).2 = r2 at *
        obtain ⟨K, hK⟩ : ∃ K : Nat, (nextF (n : Int) r2).1 = K := ⟨(nextF (n : Int) r2).1.toNat, by omega⟩
        have Kn : K < n := by omega
        have KnI : (K : Int) < (n : Int) := by omega
        have Kl : K < cs.length := by rw [HL.out]; exact Kn
        obtain ⟨cb, co, rfl, hcap, hcb, c0, c1, c2, c3⟩ := cols_in HC.out Kl
        have TK := HT.out K Kl
        obtain ⟨d, hd⟩ : ∃ d, cs[K]'Kl = d := ⟨_, rfl⟩
        have HD := Lib.hid hd
        rw [hd] at c0 c1 c2 c3 TK
        obtain ⟨cn, ty, sc, nul⟩ := d
        dsimp only at c0 c1 c2 c3 TK
        have HK := Lib.hid hK
        have bn : ¬ cb = sb := by omega
        have bw : cb < w.heap.size := by omega
        clear hK hKb hd
        go_upto_region 10 with (go_at_call 20; refine Calls.mono (next_any _ r2 (n : Int) (by omega) (by omega) _ ?_) ?_; (focus (repeat (first | with_reducible assumption | with_reducible refine SrcAt.al ?_ _ | with_reducible refine SrcAt.drew ?_ | with_reducible refine SrcAt.stn ?_ (by first | (simp; done) | (simp; omega)) _))); rintro e w3 ⟨rfl, hm3, hs3⟩; rw [HK.out]; have hmw : Mv (fun k => k = sb) w w3 := Mv.mv (by repeat (first | with_reducible exact Mv.refl _ _ | with_reducible assumption | with_reducible refine Mv.al ?_ _ | with_reducible refine Mv.drew ?_ | with_reducible refine Mv.st ?_ (.inr (by first | (simp; done) | (simp; omega))) _)) hm3 rfl; obtain ⟨x3, rfl⟩ := ExtM.of hm3)
        have u1 := x3.lt (n := w.heap.size + 1) (by simpa using hnw1)
        have u0 : w.heap.size < x3.it.heap.size := by omega
        have u2 := x3.lt (n := NB) (by simpa using zl)
        have u3 : cb < x3.it.heap.size := by omega
        have ncb : cb ≠ NB := by omega
        have k0 := (hmw.cell (co + K * 4) bw bn).trans c0
        have k1 := (hmw.cell (co + K * 4 + 1) bw bn).trans c1
        have k2 := (hmw.cell (co + K * 4 + 2) bw bn).trans c2
        have k3 := (hmw.cell (co + K * 4 + 3) bw bn).trans c3
        clear c0 c1 c2 c3
        subst o7
        go_upto_region 16 with fail
        refine captureM ?_
        intro v ev
        have vm : Mv (fun k => k = sb) w v := by rw [ev]; repeat (first | with_reducible exact Mv.refl _ _ | with_reducible assumption | with_reducible refine Mv.al ?_ _ | with_reducible refine Mv.drew ?_ | with_reducible refine Mv.st ?_ (.inr (by first | (simp; done) | (simp; omega))) _)
        have vsr : SrcAt v sb (nextF (n : Int) r2).2 := by rw [ev]; repeat (first | with_reducible assumption | with_reducible refine SrcAt.al ?_ _ | with_reducible refine SrcAt.drew ?_ | with_reducible refine SrcAt.stn ?_ (by first | (simp; done) | (simp; omega)) _)
        have l1 : w.heap.size + 1 < v.heap.size := by rw [ev]; simp; omega
        have l2 : NB < v.heap.size := by rw [ev]; simp; omega
        have l3 : x3.it.heap.size < v.heap.size := by rw [ev]; simp
        have ncx : x3.it.heap.size ≠ NB := by omega
        have ncx' : NB ≠ x3.it.heap.size := by omega
        have ncy : x3.it.heap.size ≠ sb := by omega
        have ncz : w.heap.size + 1 ≠ x3.it.heap.size := by omega
        have ncw : w.heap.size ≤ x3.it.heap.size := by omega
        have w0 : v.cell? ⟨NB, 0, none⟩ = some (.int .i64 7) := by rw [ev]; simp (maxDischargeDepth := 9) [go_sem, *]
        have w1 : v.cell? ⟨NB, 1, none⟩ = some (.int .i64 (K : Int)) := by rw [ev]; simp (maxDischargeDepth := 9) [go_sem, *]
        have w2 : v.cell? ⟨NB, 2, none⟩ = some (.bool false) := by rw [ev]; simp (maxDischargeDepth := 9) [go_sem, *]
        have w3 : v.cell? ⟨NB, 3, none⟩ = some (.int .i64 0) := by rw [ev]; simp (maxDischargeDepth := 9) [go_sem, *]
        have w4 : v.cell? ⟨NB, 4, none⟩ = some (.string ⟨#[]⟩) := by rw [ev]; simp (maxDischargeDepth := 9) [go_sem, *]
        have w5 : v.cell? ⟨NB, 5, none⟩ = some (.slice none 0 0) := by rw [ev]; simp (maxDischargeDepth := 9) [go_sem, *]
        have w6 : v.cell? ⟨NB, 6, none⟩ = some (.int .i64 0) := by rw [ev]; simp (maxDischargeDepth := 9) [go_sem, *]
        have w7 : v.cell? ⟨NB, 7, none⟩ = some (.int .i64 0) := by rw [ev]; simp (maxDischargeDepth := 9) [go_sem, *]
        have wf5 : v.frozen? ⟨NB, 5, none⟩ = false := by rw [ev]; simp (maxDischargeDepth := 9) [go_sem, *]
        have r0' : v.cell? ⟨w.heap.size + 1, 0, none⟩ = some (.int .i64 0) := by rw [ev]; simp (maxDischargeDepth := 9) [go_sem, *]
        have rf0' : v.frozen? ⟨w.heap.size + 1, 0, none⟩ = false := by rw [ev]; simp (maxDischargeDepth := 9) [go_sem, *]
        have r1' : v.cell? ⟨w.heap.size + 1, 1, none⟩ = some (.int .i64 0) := by rw [ev]; simp (maxDischargeDepth := 9) [go_sem, *]
        have rf1' : v.frozen? ⟨w.heap.size + 1, 1, none⟩ = false := by rw [ev]; simp (maxDischargeDepth := 9) [go_sem, *]
        have r2' : v.cell? ⟨w.heap.size + 1, 2, none⟩ = some (.bool false) := by rw [ev]; simp (maxDischargeDepth := 9) [go_sem, *]
        have rf2' : v.frozen? ⟨w.heap.size + 1, 2, none⟩ = false := by rw [ev]; simp (maxDischargeDepth := 9) [go_sem, *]
        have r3' : v.cell? ⟨w.heap.size + 1, 3, none⟩ = some (.int .i64 0) := by rw [ev]; simp (maxDischargeDepth := 9) [go_sem, *]
        have rf3' : v.frozen? ⟨w.heap.size + 1, 3, none⟩ = false := by rw [ev]; simp (maxDischargeDepth := 9) [go_sem, *]
        have r4' : v.cell? ⟨w.heap.size + 1, 4, none⟩ = some (.string ⟨#[]⟩) := by rw [ev]; simp (maxDischargeDepth := 9) [go_sem, *]
        have rf4' : v.frozen? ⟨w.heap.size + 1, 4, none⟩ = false := by rw [ev]; simp (maxDischargeDepth := 9) [go_sem, *]
        have r5' : v.cell? ⟨w.heap.size + 1, 5, none⟩ = some (.slice none 0 0) := by rw [ev]; simp (maxDischargeDepth := 9) [go_sem, *]
        have rf5' : v.frozen? ⟨w.heap.size + 1, 5, none⟩ = false := by rw [ev]; simp (maxDischargeDepth := 9) [go_sem, *]
        have r6' : v.cell? ⟨w.heap.size + 1, 6, none⟩ = some (.int .i64 0) := by rw [ev]; simp (maxDischargeDepth := 9) [go_sem, *]
        have rf6' : v.frozen? ⟨w.heap.size + 1, 6, none⟩ = false := by rw [ev]; simp (maxDischargeDepth := 9) [go_sem, *]
        have r7' : v.cell? ⟨w.heap.size + 1, 7, none⟩ = some (.int .i64 0) := by rw [ev]; simp (maxDischargeDepth := 9) [go_sem, *]
        have rf7' : v.frozen? ⟨w.heap.size + 1, 7, none⟩ = false := by rw [ev]; simp (maxDischargeDepth := 9) [go_sem, *]
        have cl0 : v.cell? ⟨x3.it.heap.size, 0, none⟩ = some (.string cn) := by rw [ev]; simp (maxDischargeDepth := 9) [go_sem, *]
        have cl1 : v.cell? ⟨x3.it.heap.size, 1, none⟩ = some (.int .i64 ty) := by rw [ev]; simp (maxDischargeDepth := 9) [go_sem, *]
        have cl2 : v.cell? ⟨x3.it.heap.size, 2, none⟩ = some (.int .i64 sc) := by rw [ev]; simp (maxDischargeDepth := 9) [go_sem, *]
        have cl3 : v.cell? ⟨x3.it.heap.size, 3, none⟩ = some (.bool nul) := by rw [ev]; simp (maxDischargeDepth := 9) [go_sem, *]
        have clf : v.frozen? ⟨x3.it.heap.size, 3, none⟩ = false := by rw [ev]; simp (maxDischargeDepth := 9) [go_sem, *]
        clear ev k0 k1 k2 k3 b0 b1 p0 p1 p2 p3 p4 p5 p6 p7 f0 f1 f2 f3 f4 f5 f6 f7 q0 q1 q2 q3 q4 q5 q6 q7 g0 g1 g2 g3 g4 g5 g6 g7 zs zm u0 u1 u2 u3 hmw hm3 hs3
        generalize x3.it.heap.size = CB at *
        clear x3
        go_upto_region 17 with (go_at_call 20; refine Calls.mono (next_3 _ (nextF (n : Int) r2).2 _ vsr) ?_; rintro e w4 ⟨rfl, hm4, hs4⟩; have hmw4 : Mv (fun k => k = sb) w w4 := Mv.mv vm hm4 rfl; obtain ⟨x4, rfl⟩ := ExtM.of hm4; have d1 := x4.lt l1; have d2 := x4.lt l2; have d3 := x4.lt l3)
        obtain ⟨nb, hnb⟩ : ∃ nb, ((nextF 3 (nextF (n : Int) r2).2).1 == 0) = nb := ⟨_, rfl⟩
        rw [hnb]
        clear hnb
        generalize hr3 : (nextF 3 (nextF (n : Int) r2).2).2 = r3 at *
        have hs5 : SrcAt (x4.it.setCell ⟨CB, 3, none⟩ (.bool nb)) sb r3 := hs4.stn (by show sb < CB; omega) _
        have n4 := nextF_bd r3 (n := 4) (by decide)
        go_wp2_with (go_at_call 20; refine Calls.mono (next_4 _ r3 _ hs5) ?_; rintro e w5 ⟨rfl, hm5, hs6⟩; have hmw5 : Mv (fun k => k = sb) w w5 := Mv.mv (hmw4.st (.inr (by show w.heap.size ≤ CB; omega)) _) hm5 rfl; obtain ⟨x5, rfl⟩ := ExtM.of hm5; have a1 := x5.lt (n := w.heap.size + 1) (by simpa using d1); have a2 := x5.lt (n := NB) (by simpa using d2); have a3 := x5.lt (n := CB) (by simpa using d3))
        have m0 : x5.it.cell? ⟨NB, 0, none⟩ = some (.int .i64 7) := by simp (maxDischargeDepth := 9) [go_sem, *]
        have m1 : x5.it.cell? ⟨NB, 1, none⟩ = some (.int .i64 (K : Int)) := by simp (maxDischargeDepth := 9) [go_sem, *]
        have m2 : x5.it.cell? ⟨NB, 2, none⟩ = some (.bool false) := by simp (maxDischargeDepth := 9) [go_sem, *]
        have m3 : x5.it.cell? ⟨NB, 3, none⟩ = some (.int .i64 0) := by simp (maxDischargeDepth := 9) [go_sem, *]
        have m4 : x5.it.cell? ⟨NB, 4, none⟩ = some (.string ⟨#[]⟩) := by simp (maxDischargeDepth := 9) [go_sem, *]
        have m5 : x5.it.cell? ⟨NB, 5, none⟩ = some (.slice none 0 0) := by simp (maxDischargeDepth := 9) [go_sem, *]
        have m6 : x5.it.cell? ⟨NB, 6, none⟩ = some (.int .i64 0) := by simp (maxDischargeDepth := 9) [go_sem, *]
        have m7 : x5.it.cell? ⟨NB, 7, none⟩ = some (.int .i64 0) := by simp (maxDischargeDepth := 9) [go_sem, *]
        have mf5 : x5.it.frozen? ⟨NB, 5, none⟩ = false := by simp (maxDischargeDepth := 9) [go_sem, *]
        have s0' : x5.it.cell? ⟨w.heap.size + 1, 0, none⟩ = some (.int .i64 0) := by simp (maxDischargeDepth := 9) [go_sem, *]
        have sf0' : x5.it.frozen? ⟨w.heap.size + 1, 0, none⟩ = false := by simp (maxDischargeDepth := 9) [go_sem, *]
        have s1' : x5.it.cell? ⟨w.heap.size + 1, 1, none⟩ = some (.int .i64 0) := by simp (maxDischargeDepth := 9) [go_sem, *]
        have sf1' : x5.it.frozen? ⟨w.heap.size + 1, 1, none⟩ = false := by simp (maxDischargeDepth := 9) [go_sem, *]
        have s2' : x5.it.cell? ⟨w.heap.size + 1, 2, none⟩ = some (.bool false) := by simp (maxDischargeDepth := 9) [go_sem, *]
        have sf2' : x5.it.frozen? ⟨w.heap.size + 1, 2, none⟩ = false := by simp (maxDischargeDepth := 9) [go_sem, *]
        have s3' : x5.it.cell? ⟨w.heap.size + 1, 3, none⟩ = some (.int .i64 0) := by simp (maxDischargeDepth := 9) [go_sem, *]
        have sf3' : x5.it.frozen? ⟨w.heap.size + 1, 3, none⟩ = false := by simp (maxDischargeDepth := 9) [go_sem, *]
        have s4' : x5.it.cell? ⟨w.heap.size + 1, 4, none⟩ = some (.string ⟨#[]⟩) := by simp (maxDischargeDepth := 9) [go_sem, *]
        have sf4' : x5.it.frozen? ⟨w.heap.size + 1, 4, none⟩ = false := by simp (maxDischargeDepth := 9) [go_sem, *]
        have s5' : x5.it.cell? ⟨w.heap.size + 1, 5, none⟩ = some (.slice none 0 0) := by simp (maxDischargeDepth := 9) [go_sem, *]
        have sf5' : x5.it.frozen? ⟨w.heap.size + 1, 5, none⟩ = false := by simp (maxDischargeDepth := 9) [go_sem, *]
        have s6' : x5.it.cell? ⟨w.heap.size + 1, 6, none⟩ = some (.int .i64 0) := by simp (maxDischargeDepth := 9) [go_sem, *]
        have sf6' : x5.it.frozen? ⟨w.heap.size + 1, 6, none⟩ = false := by simp (maxDischargeDepth := 9) [go_sem, *]
        have s7' : x5.it.cell? ⟨w.heap.size + 1, 7, none⟩ = some (.int .i64 0) := by simp (maxDischargeDepth := 9) [go_sem, *]
        have sf7' : x5.it.frozen? ⟨w.heap.size + 1, 7, none⟩ = false := by simp (maxDischargeDepth := 9) [go_sem, *]
        have e0' : x5.it.cell? ⟨CB, 0, none⟩ = some (.string cn) := by simp (maxDischargeDepth := 9) [go_sem, *]
        have e1' : x5.it.cell? ⟨CB, 1, none⟩ = some (.int .i64 ty) := by simp (maxDischargeDepth := 9) [go_sem, *]
        have e2' : x5.it.cell? ⟨CB, 2, none⟩ = some (.int .i64 sc) := by simp (maxDischargeDepth := 9) [go_sem, *]
        have e3' : x5.it.cell? ⟨CB, 3, none⟩ = some (.bool nb) := by simp (maxDischargeDepth := 9) [go_sem, *]
        clear w0 w1 w2 w3 w4 w5 w6 w7 wf5 r0' r1' r2' r3' r4' r5' r6' r7' rf0' rf1' rf2' rf3' rf4' rf5' rf6' rf7' cl0 cl1 cl2 cl3 clf d1 d2 d3 hm4 hs4 hmw4 hs5 vm vsr l1 l2 l3 hm5
        generalize x5.it = y0 at *
        clear x5 x4
        obtain ⟨N0, hN0⟩ : ∃ N0 : Nat, 1 + (nextF 4 r3).1 = N0 := ⟨(1 + (nextF 4 r3).1).toNat, by omega⟩
        have hN1 : 1 ≤ N0 := by omega
        have hN4 : N0 ≤ 4 := by omega
        rw [hN0]
        generalize (nextF 4 r3).2 = r4 at *
        clear hN0 n4
        have IM0 : Hid (InMem y0 sb NB y0 (.slice none 0 0) [] r4) := Lib.hid ⟨Mv.refl _ _, by omega, a2, hs6, m5, mf5, fun _ _ => rfl, World.ownsRow_nil _ _ _ _⟩
        clear hs6
        go_loopg [9] N0 (fun g s wr => ∃ (lv : Value) (ls : List Val) (rr : List Int), s = .int .i64 (g : Int) ∧ ls.length + g = N0 ∧ listE ty ls = 0 ∧ InMem y0 sb NB wr lv ls rr)
        case atStart => exact ⟨_, [], r4, rfl, by simp, rfl, IM0.out⟩
        case round =>
          obtain ⟨lv, ls, rr, rfl, hlen, hle, M⟩ := hrel
          clear IM0
          have ML := Lib.hid M
          have m0 := (M.oth 0 (by decide)).trans m0
          have m1 := (M.oth 1 (by decide)).trans m1
          have m2 := (M.oth 2 (by decide)).trans m2
          have m3 := (M.oth 3 (by decide)).trans m3
          have m4 := (M.oth 4 (by decide)).trans m4
          have m5 := M.c5
          have m6 := (M.oth 6 (by decide)).trans m6
          have m7 := (M.oth 7 (by decide)).trans m7
          have wcb := M.mv.size
          have z1 : w.heap.size + 1 < wr.heap.size := by omega
          have z2 : NB < wr.heap.size := by omega
          have z3 : CB < wr.heap.size := by omega
          by_cases hg0 : gk = 0
          · subst hg0
            have s0' := (M.mv.cell 0 (b := w.heap.size + 1) (by omega) (by omega)).trans s0'
            have sf0' := (M.mv.frozen 0 (b := w.heap.size + 1) (by omega) (by omega)).trans sf0'
            have s1' := (M.mv.cell 1 (b := w.heap.size + 1) (by omega) (by omega)).trans s1'
            have sf1' := (M.mv.frozen 1 (b := w.heap.size + 1) (by omega) (by omega)).trans sf1'
            have s2' := (M.mv.cell 2 (b := w.heap.size + 1) (by omega) (by omega)).trans s2'
            have sf2' := (M.mv.frozen 2 (b := w.heap.size + 1) (by omega) (by omega)).trans sf2'
            have s3' := (M.mv.cell 3 (b := w.heap.size + 1) (by omega) (by omega)).trans s3'
            have sf3' := (M.mv.frozen 3 (b := w.heap.size + 1) (by omega) (by omega)).trans sf3'
            have s4' := (M.mv.cell 4 (b := w.heap.size + 1) (by omega) (by omega)).trans s4'
            have sf4' := (M.mv.frozen 4 (b := w.heap.size + 1) (by omega) (by omega)).trans sf4'
            have s5' := (M.mv.cell 5 (b := w.heap.size + 1) (by omega) (by omega)).trans s5'
            have sf5' := (M.mv.frozen 5 (b := w.heap.size + 1) (by omega) (by omega)).trans sf5'
            have s6' := (M.mv.cell 6 (b := w.heap.size + 1) (by omega) (by omega)).trans s6'
            have sf6' := (M.mv.frozen 6 (b := w.heap.size + 1) (by omega) (by omega)).trans sf6'
            have s7' := (M.mv.cell 7 (b := w.heap.size + 1) (by omega) (by omega)).trans s7'
            have sf7' := (M.mv.frozen 7 (b := w.heap.size + 1) (by omega) (by omega)).trans sf7'
            have HLE := Lib.hid (And.intro hlen hle)
            clear M hlen hle
            obtain ⟨la, lc, rfl⟩ := own_form ML.out.own
            go_wp2
            refine bodyPost_ret (v := .agg #[.int .i64 7, .int .i64 (K : Int), .bool false, .int .i64 0, .string ⟨#[]⟩, .slice la ls.length lc, .int .i64 0, .int .i64 0]) ?_ rfl ⟨⟨7, K, ⟨false, 0, ⟨#[]⟩⟩, ls, 0, 0⟩, .slice la ls.length lc, rr, rfl, ?_, ?_, ?_, by have := HLE.out.1; show ls.length ≤ 4; omega, nodE_in Kl (by have := HLE.out.1; omega) (by have := HLE.out.1; omega) (by rw [HD.out]; exact HLE.out.2)⟩
            · simp (maxDischargeDepth := 9) [results, Tryz.results49, go_sem, *]
            · refine Mv.moved ?_
              have hmw6 : Mv (fun k => k = sb) w wr := hmw5.far ML.out.mv (by omega)
              repeat (first | with_reducible exact Mv.refl _ _ | with_reducible assumption | with_reducible refine Mv.al ?_ _ | with_reducible refine Mv.drew ?_ | with_reducible refine Mv.st ?_ (.inr (by first | (simp; done) | (simp; omega))) _)
            · have hs7 := ML.out.src
              repeat (first | with_reducible assumption | with_reducible refine SrcAt.al ?_ _ | with_reducible refine SrcAt.drew ?_ | with_reducible refine SrcAt.stn ?_ (by first | (simp; done) | (simp; omega)) _)
            · have ho := ML.out.own
              refine own_sub (B' := y0.heap.size) ?_ (by omega)
              exact own_mv ho (Mv.st (Mv.st (Mv.st (Mv.st (Mv.st (Mv.st (Mv.st (Mv.st (Mv.refl (fun k => k = w.heap.size + 1) _) (.inl rfl) _) (.inl rfl) _) (.inl rfl) _) (.inl rfl) _) (.inl rfl) _) (.inl rfl) _) (.inl rfl) _) (.inl rfl) _) (fun k hk => by omega)
          · have hlt : (0 : Int) < (gk : Int) := by omega
            have hlt1 : (1 : Int) ≤ (gk : Int) := by omega
            have hlt2 : (gk : Int) ≤ 4 := by omega
            have hl4 : ls.length + 1 ≤ 4 := by omega
            have e0' := (M.mv.cell 0 (b := CB) (by omega) (by omega)).trans e0'
            have e1' := (M.mv.cell 1 (b := CB) (by omega) (by omega)).trans e1'
            have e2' := (M.mv.cell 2 (b := CB) (by omega) (by omega)).trans e2'
            have e3' := (M.mv.cell 3 (b := CB) (by omega) (by omega)).trans e3'
            obtain ⟨⟨⟨vn, vi, vS⟩, rr'⟩, hv0⟩ : ∃ p, valF ty nb rr = p := ⟨_, rfl⟩
            have VOK := valF_ok (ty := ty) nb rr TK.1 TK.2
            rw [hv0] at VOK
            have hv := Lib.hid hv0
            have VOK' : vchk ty true vn vi vS = 0 := vchk_true VOK
            have HLE := Lib.hid (And.intro hlen (And.intro hle (And.intro VOK' hg0)))
            have mf5 := M.f5
            have hsr := M.src
            clear M hlen hle hg0 hv0 VOK VOK' m0 m1 m2 m3 m4 m6 m7 s0' s1' s2' s3' s4' s5' s6' s7' sf0' sf1' sf2' sf3' sf4' sf5' sf6' sf7'
            go_upto_region 20 with fail
            go_region_law ((first | ((refine step_append_lies _ (by rfl) _ _ 42 (by rfl) y0.heap.size 41 i0 _ 3 32 Tryz.underlying42 hi hz0 hz1 hz2 rfl (by decide) lv ls.length (ls.flatMap valC) (by rfl) (MK.out.own.alloc _) ⟨x6.it.heap.size, 0, none⟩ 1 1 (valC ⟨vn, vi, vS⟩) (by rfl) rfl (World.news_of_block (heap_alloc_new x6.it _)) (by simp [valC, Value.oneCell']) (by omega) (by unfold maxLen; omega) (by omega) (by simp; omega) (x6.it.heap.size + 1) (by simp) ?_; intro gb cap w7 hown hgrow hat hlt7; obtain ⟨k5, kf5⟩ := (MK.out.al _).far hgrow)) | (go_simp; go_at_call 50; refine Calls.mono (value_eq hv.out sb cn sc _ hsr.drew) ?_; rintro e w6 ⟨rfl, hm6, hs6⟩; have MK := Lib.hid (ML.out.on (Mv.of_moved (S := fun k => k = sb) (w := wr) ⟨hm6.os, hm6.tape, hm6.output, hm6.size, hm6.block⟩ rfl) hs6); have zz : wr.heap.size ≤ w6.heap.size := hm6.size; have z4 : CB < w6.heap.size := (Nat.lt_of_lt_of_le z3 zz); have z5 : NB < w6.heap.size := (Nat.lt_of_lt_of_le z2 zz); have c5 := MK.out.c5; have b0' := (hm6.block CB z3 ncy); obtain ⟨x6, rfl⟩ := ExtM.of hm6)))
            all_goals
              have MS := Lib.hid ((MK.out.al _).step (c := ⟨vn, vi, vS⟩) hgrow hown)
              clear hown hgrow hat hlt7
              go_wp2
              go_roundg (gk - 1)
              case measure => omega
              case rel => exact ⟨_, ls ++ [⟨vn, vi, vS⟩], rr', by go_num, by have := HLE.out.1; have := HLE.out.2.2.2; rw [List.length_append]; show ls.length + 1 + (gk - 1) = N0; omega, listE_snoc HLE.out.2.1 HLE.out.2.2.1, MS.out⟩
      · skip
        have hKb := nextF_bd (nextF 11 r).2 (n := (n : Int)) (by omega)
        generalize hr2 : (nextF 11 r).2 = r2 at *
        obtain ⟨K, hK⟩ : ∃ K : Nat, (nextF (n : Int) r2).1 = K := ⟨(nextF (n : Int) r2).1.toNat, by omega⟩
        have Kn : K < n := by omega
        have KnI : (K : Int) < (n : Int) := by omega
        have Kl : K < cs.length := by rw [HL.out]; exact Kn
        obtain ⟨cb, co, rfl, hcap, hcb, c0, c1, c2, c3⟩ := cols_in HC.out Kl
        have TK := HT.out K Kl
        obtain ⟨d, hd⟩ : ∃ d, cs[K]'Kl = d := ⟨_, rfl⟩
        have HD := Lib.hid hd
        rw [hd] at c0 c1 c2 c3 TK
        obtain ⟨cn, ty, sc, nul⟩ := d
        dsimp only at c0 c1 c2 c3 TK
        have HK := Lib.hid hK
        have bn : ¬ cb = sb := by omega
        have bw : cb < w.heap.size := by omega
        clear hK hKb hd
        go_upto_region 10 with (go_at_call 20; refine Calls.mono (next_any _ r2 (n : Int) (by omega) (by omega) _ ?_) ?_; (focus (repeat (first | with_reducible assumption | with_reducible refine SrcAt.al ?_ _ | with_reducible refine SrcAt.drew ?_ | with_reducible refine SrcAt.stn ?_ (by first | (simp; done) | (simp; omega)) _))); rintro e w3 ⟨rfl, hm3, hs3⟩; rw [HK.out]; have hmw : Mv (fun k => k = sb) w w3 := Mv.mv (by repeat (first | with_reducible exact Mv.refl _ _ | with_reducible assumption | with_reducible refine Mv.al ?_ _ | with_reducible refine Mv.drew ?_ | with_reducible refine Mv.st ?_ (.inr (by first | (simp; done) | (simp; omega))) _)) hm3 rfl; obtain ⟨x3, rfl⟩ := ExtM.of hm3)
        have u1 := x3.lt (n := w.heap.size + 1) (by simpa using hnw1)
        have u0 : w.heap.size < x3.it.heap.size := by omega
        have u2 := x3.lt (n := NB) (by simpa using zl)
        have u3 : cb < x3.it.heap.size := by omega
        have ncb : cb ≠ NB := by omega
        have k0 := (hmw.cell (co + K * 4) bw bn).trans c0
        have k1 := (hmw.cell (co + K * 4 + 1) bw bn).trans c1
        have k2 := (hmw.cell (co + K * 4 + 2) bw bn).trans c2
        have k3 := (hmw.cell (co + K * 4 + 3) bw bn).trans c3
        clear c0 c1 c2 c3
        have e8 : (op0 == 7) = false := by simp; omega
        have o8 : op0 = 8 := by omega
        subst o8
        go_wp2
        refine bodyPost_ret (v := .agg #[.int .i64 8, .int .i64 (K : Int), .bool false, .int .i64 0, .string ⟨#[]⟩, .slice none 0 0, .int .i64 0, .int .i64 0]) ?_ rfl ⟨⟨8, K, ⟨false, 0, ⟨#[]⟩⟩, [], 0, 0⟩, .slice none 0 0, (nextF (n : Int) r2).2, rfl, ?_, ?_, World.ownsRow_nil _ _ _ _, by simp, nodE_null Kl⟩
        · simp (maxDischargeDepth := 9) [results, Tryz.results49, go_sem, *]
        · refine Mv.moved ?_; repeat (first | with_reducible exact Mv.refl _ _ | with_reducible assumption | with_reducible refine Mv.al ?_ _ | with_reducible refine Mv.drew ?_ | with_reducible refine Mv.st ?_ (.inr (by first | (simp; done) | (simp; omega))) _)
        · repeat (first | with_reducible assumption | with_reducible refine SrcAt.al ?_ _ | with_reducible refine SrcAt.drew ?_ | with_reducible refine SrcAt.stn ?_ (by first | (simp; done) | (simp; omega)) _)
end Go.Proofs.YtpahoenanfjhpaaGreat
namespace Go.Proofs.YtpahoenanfjhpaaGreat
open Go.RowKit
def nodC (p : Nod × Value) : List Value := [.int .i64 p.1.op, .int .i64 p.1.col, .bool p.1.v.null, .int .i64 p.1.v.n, .string p.1.v.s, p.2, .int .i64 p.1.a, .int .i64 p.1.b]
theorem inn_nods {B0 : Nat} {w : World} {base : Nat} {T : TypeId} {v : Value} {dl : List (Nod × Value)} (hl : dl.length ≤ 9223372036854775807) (hi : Inn B0 w v (dl.map Prod.snd) (dl.map fun p => p.1.ls)) (h : w.ownsRow base T 8 v dl.length (dl.flatMap nodC)) : NodsAt w w.heap.size v (dl.map Prod.fst) := by
  rcases own_at (f := nodC) (k := 8) (fun _ => rfl) h with ⟨rfl, rfl⟩ | ⟨g, c, rfl, hc, _, hg, H⟩
  · exact ⟨by simp, .inl ⟨rfl, none, 0, rfl⟩⟩
  · refine ⟨by rw [List.length_map]; exact hl, .inr ⟨g, 0, c, by rw [List.length_map], by rw [List.length_map]; exact hc, hg, fun j hj => ?_⟩⟩
    have hj' : j < dl.length := by simpa using hj
    have e1 : (dl.map Prod.fst)[j]'hj = (dl[j]'hj').1 := by simp
    have V := (hi.2 j (by simpa using hj') (by simpa using hj')).1
    have e2 : (dl.map Prod.snd)[j]'(by simpa using hj') = (dl[j]'hj').2 := by simp
    have e3 : (dl.map fun p => p.1.ls)[j]'(by simpa using hj') = (dl[j]'hj').1.ls := by simp
    rw [e2, e3] at V
    rw [e1]
    simp only [Nat.zero_add]
    exact ⟨(dl[j]'hj').2, H j hj' 0 _ (by omega) rfl, H j hj' 1 _ (by omega) rfl, H j hj' 2 _ (by omega) rfl, H j hj' 3 _ (by omega) rfl, H j hj' 4 _ (by omega) rfl, H j hj' 5 _ (by omega) rfl, H j hj' 6 _ (by omega) rfl, H j hj' 7 _ (by omega) rfl, V⟩
theorem nodsE_snoc {cs : List Col} : ∀ (ns : List Nod) (i : Int) (d : Nod), nodsE cs i ns = 0 → nodE cs (i + ns.length) d = 0 → nodsE cs i (ns ++ [d]) = 0
  | [], i, d, _, h => by
    have h' : nodE cs i d = 0 := by simpa using h
    simp [nodsE, h']
  | u :: ns, i, d, h0, h => by
    simp only [List.cons_append, nodsE] at h0 ⊢
    by_cases e : nodE cs i u = 0
    · rw [if_pos e] at h0 ⊢
      exact nodsE_snoc ns (i + 1) d h0 (by rw [List.length_cons] at h; rw [show i + 1 + (ns.length : Int) = i + ((ns.length + 1 : Nat) : Int) by omega]; exact h)
    · rw [if_neg e] at h0; exact absurd h0 e
theorem colsE_tys : ∀ (cs pre : List Col), colsE pre cs = 0 → ∀ j (h : j < cs.length), 1 ≤ (cs[j]'h).ty ∧ (cs[j]'h).ty ≤ 5
  | [], _, _, j, h => absurd h (by simp)
  | c :: cs, pre, h0, j, h => by
    simp only [colsE] at h0
    by_cases e : colE pre c = 0
    · rw [if_pos e] at h0
      cases j with
      | zero =>
        unfold colE at e
        split at e
        · exact absurd e (by decide)
        · split at e
          · exact absurd e (by decide)
          · split at e
            · exact absurd e (by decide)
            · show 1 ≤ c.ty ∧ c.ty ≤ 5; omega
      | succ j => exact colsE_tys cs _ h0 j (by simpa using h)
    · rw [if_neg e] at h0; exact absurd h0 e
theorem schema_parts {cs : List Col} {key : Int} (hs : schemaF cs key = 0) : (∀ j (h : j < cs.length), 1 ≤ (cs[j]'h).ty ∧ (cs[j]'h).ty ≤ 5) ∧ 1 ≤ cs.length ∧ cs.length ≤ 12 ∧ 0 ≤ key ∧ key < cs.length := by
  unfold schemaF at hs
  split at hs
  · exact absurd hs (by decide)
  · split at hs
    · exact absurd hs (by decide)
    · split at hs
      · rename_i e
        split at hs
        · exact absurd hs (by decide)
        · exact ⟨colsE_tys cs [] e, by omega, by omega, by omega, by omega⟩
      · rename_i e; exact absurd hs e
theorem infoNod : (Tryz.prog.info? 44).map (fun i => (i.zero, i.size, i.bytes)) = some (some (.agg #[.int .i64 0, .int .i64 0, .bool false, .int .i64 0, .string ⟨#[]⟩, .slice none 0 0, .int .i64 0, .int .i64 0]), 8, 88) := by kernel_rfl
end Go.Proofs.YtpahoenanfjhpaaGreat
namespace Go.Proofs.YtpahoenanfjhpaaGreat
open Go.RowKit
theorem infoCol : (Tryz.prog.info? 58).map (fun i => (i.zero, i.size, i.bytes)) = some (some (.agg #[.string ⟨#[]⟩, .int .i64 0, .int .i64 0, .bool false]), 4, 40) := by kernel_rfl
/-- What keep.Schema has in memory at the head of a round. -/
structure ScMem (w0 : World) (sb ob : Nat) (wr : World) (v : Value) (cs : List Col) (r : List Int) : Prop where
  mv : Mv (fun k => k = sb ∨ k = ob) w0 wr
  so : sb < ob
  ol : ob < w0.heap.size
  src : SrcAt wr sb r
  c0 : wr.cell? ⟨ob, 0, none⟩ = some v
  c1 : wr.cell? ⟨ob, 1, none⟩ = some (.int .i64 0)
  f0 : wr.frozen? ⟨ob, 0, none⟩ = false
  f1 : wr.frozen? ⟨ob, 1, none⟩ = false
  own : wr.ownsRow w0.heap.size 58 4 v cs.length (cs.flatMap colC)
/-- The column of a round, in a block of its own. -/
structure ScCol (sb CB : Nat) (nm : ByteArray) (ty sc : Int) (nul : Bool) (r : List Int) (wr wx : World) : Prop where
  mv : Mv (fun k => k = sb) wr wx
  lo : wr.heap.size ≤ CB
  lt : CB < wx.heap.size
  src : SrcAt wx sb r
  c0 : wx.cell? ⟨CB, 0, none⟩ = some (.string nm)
  c1 : wx.cell? ⟨CB, 1, none⟩ = some (.int .i64 ty)
  c2 : wx.cell? ⟨CB, 2, none⟩ = some (.int .i64 sc)
  c3 : wx.cell? ⟨CB, 3, none⟩ = some (.bool nul)
  f2 : wx.frozen? ⟨CB, 2, none⟩ = false
theorem ScMem.on {w0 : World} {sb ob : Nat} {wr wx : World} {v : Value} {cs : List Col} {r r' : List Int} (h : ScMem w0 sb ob wr v cs r) (hm' : Mv (fun k => k = sb) wr wx) (hs : SrcAt wx sb r') : ScMem w0 sb ob wx v cs r' :=
  have hm : Mv (fun k => k = sb ∨ k = ob) wr wx := hm'.mono fun _ _ q => .inl q
  have ho : wx.heap[ob]? = wr.heap[ob]? := hm'.block ob (Nat.lt_of_lt_of_le h.ol h.mv.size) (by have := h.so; omega)
  ⟨h.mv.trans hm, h.so, h.ol, hs, (World.cell?_of_block (w := wr) ho).trans h.c0, (World.cell?_of_block (w := wr) ho).trans h.c1, (World.frozen?_of_block (w := wr) ho).trans h.f0, (World.frozen?_of_block (w := wr) ho).trans h.f1,
    own_mv h.own hm fun k hk => by have := h.so; have := h.ol; omega⟩
theorem ScMem.al {w0 : World} {sb ob : Nat} {wr : World} {v : Value} {cs : List Col} {r : List Int} (h : ScMem w0 sb ob wr v cs r) (o : Obj) : ScMem w0 sb ob (wr.alloc o) v cs r :=
  h.on ((Mv.refl _ _).al o) (h.src.al o)
theorem ScMem.far {w0 : World} {sb ob : Nat} {wr w1 : World} {v : Value} {cs : List Col} {r : List Int} (h : ScMem w0 sb ob wr v cs r) (hg : wr.grownBy w1 v.ownBlock) : w1.cell? ⟨ob, 0, none⟩ = some v ∧ w1.frozen? ⟨ob, 0, none⟩ = false := by
  have hrow : ∀ k, v.ownBlock = some k → w0.heap.size ≤ k := fun k hk => (h.own.lt k hk).1
  have ol := h.ol
  have hb := hg.block ob (Nat.lt_of_lt_of_le ol h.mv.size) (fun e => by have := hrow ob e.symm; omega)
  exact ⟨(World.cell?_of_block (w := wr) hb).trans h.c0, (World.frozen?_of_block (w := wr) hb).trans h.f0⟩
theorem ScMem.step {w0 : World} {sb ob : Nat} {wr w1 : World} {v v1 : Value} {cs : List Col} {c : Col} {r : List Int} (h : ScMem w0 sb ob wr v cs r) (hg : wr.grownBy w1 v.ownBlock) (ho : w1.ownsRow w0.heap.size 58 4 v1 (cs.length + 1) (cs.flatMap colC ++ colC c)) :
    ScMem w0 sb ob (w1.setCell ⟨ob, 0, none⟩ v1) v1 (cs ++ [c]) r := by
  have hrow : ∀ k, v.ownBlock = some k → w0.heap.size ≤ k := fun k hk => (h.own.lt k hk).1
  have so := h.so
  have ol := h.ol
  have obl : ob < wr.heap.size := Nat.lt_of_lt_of_le ol h.mv.size
  have hne : some ob ≠ v.ownBlock := fun e => by have := hrow ob e.symm; omega
  have hb := hg.block ob obl hne
  have hs1 : SrcAt w1 sb r := h.src.grw hg fun k hk => by have := hrow k hk; omega
  refine ⟨(h.mv.gr hg hrow).st (.inl (.inr rfl)) _, so, ol, hs1.stn so _, ?_, ?_, ?_, ?_, ?_⟩
  · have := (World.cell?_of_block (w := wr) hb).trans h.c0
    have hf := (World.frozen?_of_block (w := wr) hb).trans h.f0
    simp [go_sem, *]
  · have := (World.cell?_of_block (w := wr) hb).trans h.c1
    simp [go_sem, *]
  · rw [World.frozen?_setCell]; exact (World.frozen?_of_block (w := wr) hb).trans h.f0
  · rw [World.frozen?_setCell]; exact (World.frozen?_of_block (w := wr) hb).trans h.f1
  · rw [List.length_append, List.flatMap_append, List.flatMap_cons, List.flatMap_nil, List.append_nil]
    exact own_mv ho ((Mv.refl (fun k => k = ob) w1).st (.inl rfl) _) fun k hk => by omega
theorem ScMem.st2 {w0 : World} {sb ob CB : Nat} {wr : World} {v : Value} {cs : List Col} {r : List Int} (h : ScMem w0 sb ob wr v cs r) (hr : ∀ k, v.ownBlock = some k → k < CB) (h0 : w0.heap.size ≤ CB) (i : Nat) (u : Value) : ScMem w0 sb ob (wr.setCell ⟨CB, i, none⟩ u) v cs r := by
  have so := h.so
  have ol := h.ol
  have ho : (wr.setCell ⟨CB, i, none⟩ u).heap[ob]? = wr.heap[ob]? := Below.heap_setCell _ _ _ _ (by show ob ≠ CB; omega)
  exact ⟨h.mv.st (.inr h0) _, so, ol, h.src.stn (by show sb < CB; omega) _, (World.cell?_of_block (w := wr) ho).trans h.c0, (World.cell?_of_block (w := wr) ho).trans h.c1, (World.frozen?_of_block (w := wr) ho).trans h.f0, (World.frozen?_of_block (w := wr) ho).trans h.f1,
    own_st h.own (fun k hk => by have := hr k hk; show k ≠ CB; omega) _⟩
set_option maxRecDepth 8000 in
set_option maxHeartbeats 2000000 in
theorem keepSchemaN_any (lv : Value) (zs : List Int) (w : World) (h : IntsAt w w.heap.size lv zs) :
    Calls Tryz.prog 7 #[lv] w fun e w' => ∃ v cs key, e = .returned (.agg #[v, .int .i64 key]) ∧ ColsAt w' w'.heap.size v cs ∧ schemaF cs key = 0 ∧ ScOk 0 cs ∧ cs.length ≤ 4 ∧ Below w.heap.size w w' := by
  have h1 : IntsAt (w.alloc (.cells #[.slice none 0 0, .int .i64 0] 24)) (w.alloc (.cells #[.slice none 0 0, .int .i64 0] 24)).heap.size lv zs := (h.to (fun k hk => Below.heap_alloc _ _ _ hk)).mono (by simp)
  clear h
  obtain ⟨i0, hi, hz0, hz1, hz2⟩ := info_parts infoCol
  go_enter Tryz.func7, Tryz.ntmps7
  go_upto_region 2 with (go_at_call 19; refine (from_any lv zs _ h1).mono ?_; rintro e w1 ⟨rfl, hb1, hs1⟩; obtain ⟨x1, rfl⟩ := Ext.of hb1; have z0 : w.heap.size < x1.it.heap.size := x1.lt (by simp))
  simp only [World.size_alloc] at hs1
  go_upto_region 3 with fail
  refine captureM ?_
  intro y ey
  have ys : SrcAt y (w.heap.size + 1) zs := by rw [ey]; exact hs1.al _
  have yo : x1.it.heap.size < y.heap.size := by rw [ey]; simp
  have so : w.heap.size + 1 < x1.it.heap.size := hs1.lt
  have yc0 : y.cell? ⟨x1.it.heap.size, 0, none⟩ = some (.slice none 0 0) := by rw [ey]; simp [go_sem]
  have yc1 : y.cell? ⟨x1.it.heap.size, 1, none⟩ = some (.int .i64 0) := by rw [ey]; simp [go_sem]
  have yf0 : y.frozen? ⟨x1.it.heap.size, 0, none⟩ = false := by rw [ey]; simp [go_sem]
  have yf1 : y.frozen? ⟨x1.it.heap.size, 1, none⟩ = false := by rw [ey]; simp [go_sem]
  have yr0 : y.cell? ⟨w.heap.size, 0, none⟩ = some (.slice none 0 0) := by rw [ey]; simp (maxDischargeDepth := 9) [go_sem, *]
  have yr1 : y.cell? ⟨w.heap.size, 1, none⟩ = some (.int .i64 0) := by rw [ey]; simp (maxDischargeDepth := 9) [go_sem, *]
  have yg0 : y.frozen? ⟨w.heap.size, 0, none⟩ = false := by rw [ey]; simp (maxDischargeDepth := 9) [go_sem, *]
  have yg1 : y.frozen? ⟨w.heap.size, 1, none⟩ = false := by rw [ey]; simp (maxDischargeDepth := 9) [go_sem, *]
  have yb : Below w.heap.size w y := by rw [ey]; exact (by with_reducible repeat (first | exact Below.refl _ _ | assumption | refine Below.al ?_ _ | refine Below.on ?_ _ | refine Below.st ?_ (by first | assumption | (simp; done) | (simp; omega)) _ | refine Below.drew ?_))
  clear ey hs1 h1 hb1 z0
  generalize x1.it.heap.size = ob at *
  clear x1
  go_wp2_with (go_at_call 20; refine (next_any _ _ 4 (by decide) (by decide) _ ys).mono ?_; rintro e w2 ⟨rfl, hm2, hs2⟩; have nb := nextF_bd zs (n := 4) (by decide))
  have M0 : ScMem y (w.heap.size + 1) ob w2 (.slice none 0 0) [] (nextF 4 zs).2 :=
    ⟨Mv.of_moved hm2 (.inl rfl), so, yo, hs2, (World.cell?_of_block (w := y) (hm2.block ob yo (by omega))).trans yc0, (World.cell?_of_block (w := y) (hm2.block ob yo (by omega))).trans yc1, (World.frozen?_of_block (w := y) (hm2.block ob yo (by omega))).trans yf0, (World.frozen?_of_block (w := y) (hm2.block ob yo (by omega))).trans yf1, World.ownsRow_nil _ _ _ _⟩
  obtain ⟨N0, hN0⟩ : ∃ N0 : Nat, (1 + (nextF 4 zs).1) = (N0 : Int) := ⟨(1 + (nextF 4 zs).1).toNat, by omega⟩
  have hN1 : 1 ≤ N0 := by omega
  have hN4 : N0 ≤ 4 := by omega
  rw [hN0]
  generalize (nextF 4 zs).2 = r0 at *
  clear hN0 nb hm2 hs2 yc0 yc1 yf0 yf1 ys
  have M0' := Lib.hid M0
  clear M0
  go_loopg [5] N0 (fun g s wr => ∃ cs v r, s = .int .i64 (g : Int) ∧ cs.length + g = N0 ∧ ScOk g cs ∧ ScMem y (w.heap.size + 1) ob wr v cs r)
  case atStart => exact ⟨[], _, _, rfl, by simp, ScOk.nil _, M0'.out⟩
  case round =>
    obtain ⟨cs, v, r, rfl, hlen, hok, M⟩ := hrel
    clear M0'
    by_cases hg0 : gk = 0
    · subst hg0
      obtain ⟨va, vc, rfl⟩ := own_form M.own
      have b0 := M.src
      have b1 := M.c0
      have b2 := M.c1
      have b3 := M.f1
      have obl : ob < wr.heap.size := Nat.lt_of_lt_of_le M.ol M.mv.size
      have obn : ob ≠ w.heap.size + 1 := by omega
      have hwl : w.heap.size < wr.heap.size := by have := M.mv.size; omega
      have hwn : w.heap.size ≠ w.heap.size + 1 := by omega
      have hwo : ob ≠ w.heap.size := by omega
      have b4 := (M.mv.cell 0 (b := w.heap.size) (by omega) (by show ¬ (_ ∨ _); omega)).trans yr0
      have b5 := (M.mv.cell 1 (b := w.heap.size) (by omega) (by show ¬ (_ ∨ _); omega)).trans yr1
      have b6 := (M.mv.frozen 0 (b := w.heap.size) (by omega) (by show ¬ (_ ∨ _); omega)).trans yg0
      have b7 := (M.mv.frozen 1 (b := w.heap.size) (by omega) (by show ¬ (_ ∨ _); omega)).trans yg1
      obtain rfl : N0 = cs.length := by omega
      clear hlen
      have ML := Lib.hid M
      clear M yr0 yr1 yg0 yg1
      have hkb := nextF_bd r (n := (cs.length : Int)) (by omega)
      go_wp2_with (go_at_call 20; refine Calls.mono (next_any _ r (cs.length : Int) (by omega) (by omega) _ b0) ?_; rintro e w3 ⟨rfl, hm3, hs3⟩; obtain ⟨x3, rfl⟩ := ExtM.of hm3; have cl3 := x3.lt obl; have cl4 := x3.lt hwl)
      refine bodyPost_ret (v := .agg #[.slice va cs.length vc, .int .i64 (nextF (cs.length : Int) r).1]) ?_ rfl ⟨_, cs, _, rfl, ?_, ?_, hok, by omega, ?_⟩
      · simp (maxDischargeDepth := 9) [results, Tryz.results7, go_sem, *]
      · refine own_cols (by omega) (own_mv ML.out.own (S := fun k => k = w.heap.size + 1 ∨ k = ob ∨ k = w.heap.size) ?_ (fun k hk => by omega))
        have hmm : Mv (fun k => k = w.heap.size + 1 ∨ k = ob ∨ k = w.heap.size) wr x3.it := Mv.of_moved hm3 (.inl rfl)
        repeat (first | with_reducible assumption | with_reducible refine Mv.st ?_ (by first | exact .inl (.inr (.inl rfl)) | exact .inl (.inr (.inr rfl))) _)
      · exact hok.schema (by omega) (by omega) hkb.1 hkb.2
      · have e1 : Below w.heap.size w wr := Mv.below ML.out.mv yb (fun k hk => by omega)
        exact Below.st (Below.st (Below.st (Moved.below e1 hm3 (by omega)) (by show w.heap.size ≤ ob; omega) _) (by show w.heap.size ≤ w.heap.size; omega) _) (by show w.heap.size ≤ w.heap.size; omega) _
    · have m4 : gk ≤ 4 := by omega
      have hlt : (0 : Int) < (gk : Int) := by omega
      have hlt1 : (1 : Int) ≤ (gk : Int) := by omega
      have hlt4 : (gk : Int) ≤ 4 := by omega
      have hsl : ∀ wx : World, (Instr.slice 9 (.string ⟨#[97, 98, 99, 100]⟩) (some (.int .i64 ((gk : Int) - 1))) (some (.int .i64 (gk : Int))) none).run Tryz.prog wx = .ok (.string (ltr gk)) wx := fun wx => by
        have := run_slice_string (P := Tryz.prog) wx 9 ⟨#[97, 98, 99, 100]⟩ .i64 .i64 ((gk : Int) - 1) (gk : Int) Tryz.underlying9 (by omega) (by omega) (by show _ ≤ (4 : Int); omega)
        rw [this]
        have e1 : ((gk : Int) - 1).toNat = gk - 1 := by omega
        have e2 : ((gk : Int)).toNat = gk := by omega
        rw [e1, e2]
        rfl
      have n5 := nextF_bd r (n := 5) (by decide)
      go_upto_region 6 with fail
      go_cut [6] from 12 to 38 (fun s wx => ∃ CB ty nul r', s = .pointer (some ⟨CB, 0, none⟩) ∧ 1 ≤ ty ∧ ty ≤ 5 ∧ ScCol (w.heap.size + 1) CB (ltr gk) ty 0 nul r' wr wx)
      case first =>
        have hw1 : IntKind.i64.wrap ((gk : Int) - 1) = (gk : Int) - 1 := IntWalk.i64_in _ (by omega)
        have hsrc := M.src
        have hl0 := hsrc.lt
        have hne0 : wr.heap.size ≠ w.heap.size + 1 := by omega
        have hw2 : IntKind.i64.wrap (1 + (nextF 5 r).1) = 1 + (nextF 5 r).1 := IntWalk.i64_in _ (by omega)
        go_region_held3 (fun _ => True) (trivial) (first | (go_at_call 20; refine Calls.mono (next_any _ ?_ _ (by decide) (by decide) _ ?_) ?_; rotate_left; (focus (repeat (first | with_reducible assumption | with_reducible refine SrcAt.al ?_ _ | with_reducible refine SrcAt.drew ?_ | with_reducible refine SrcAt.stn ?_ (by first | (simp; done) | (simp; omega)) _))); rintro e w3 ⟨rfl, hm3, hs3⟩; have hmv3 : Mv (fun k => k = w.heap.size + 1) wr w3 := Mv.mv (by repeat (first | with_reducible exact Mv.refl _ _ | with_reducible assumption | with_reducible refine Mv.al ?_ _ | with_reducible refine Mv.drew ?_ | with_reducible refine Mv.st ?_ (.inr (by first | (simp; done) | (simp; omega))) _)) hm3 rfl; obtain ⟨x3, rfl⟩ := ExtM.of hm3; have hl3 := hs3.lt; have hne3 : x3.it.heap.size ≠ w.heap.size + 1 := (by omega); have hz3 := x3.moved.size; (try simp only [World.size_alloc, World.size_drew] at hz3); (try have hzt3 : wr.heap.size < x3.it.heap.size := (by omega))))
        all_goals
          go_wp2
          go_meet
          refine ⟨_, 1 + (nextF 5 r).1, ((nextF 2 (nextF 5 r).2).1 == 0), (nextF 2 (nextF 5 r).2).2, rfl, by omega, by omega, ⟨by repeat (first | with_reducible exact Mv.refl _ _ | with_reducible assumption | with_reducible refine Mv.al ?_ _ | with_reducible refine Mv.drew ?_ | with_reducible refine Mv.st ?_ (.inr (by first | (simp; done) | (simp; omega))) _), ?_, ?_, by repeat (first | with_reducible assumption | with_reducible refine SrcAt.al ?_ _ | with_reducible refine SrcAt.drew ?_ | with_reducible refine SrcAt.stn ?_ (by first | (simp; done) | (simp; omega)) _), ?_, ?_, ?_, ?_, ?_⟩⟩
          all_goals first | (clear hsl; omega) | (clear hsl; simp only [World.size_alloc, World.size_setCell]; omega) | (simp (maxDischargeDepth := 9) [go_sem, *]; done)
      case rest =>
        obtain ⟨CB, ty, nul, r', rfl, t1, t5, C⟩ := hcut
        have d0 := C.c0
        have d1 := C.c1
        have d2 := C.c2
        have d3 := C.c3
        have df := C.f2
        have clt := C.lt
        have hl0 := M.src.lt
        have cne : CB ≠ w.heap.size + 1 := by have := C.lo; omega
        have MC := M.on C.mv C.src
        have len4 : cs.length + gk ≤ 4 := by omega
        by_cases td : ty = 5
        · subst td
          go_upto_region 9 with (go_at_call 20; refine Calls.mono (next_4 _ r' _ C.src) ?_; rintro e w3 ⟨rfl, hm3, hs3⟩; have MD := MC.on (Mv.of_moved hm3 rfl) hs3; obtain ⟨x3, rfl⟩ := ExtM.of hm3; have cl3 := x3.lt clt)
          refine captureM ?_
          intro z ez
          have MZ : ScMem y (w.heap.size + 1) ob z v cs (nextF 4 r').2 := by rw [ez]; exact MD.st2 (fun k hk => by have := (M.own.lt k hk).2; have := C.lo; omega) (by have := C.lo; have := M.mv.size; omega) _ _
          have g0 : z.cell? ⟨CB, 0, none⟩ = some (.string (ltr gk)) := by rw [ez]; simp (maxDischargeDepth := 9) [go_sem, *]
          have g1 : z.cell? ⟨CB, 1, none⟩ = some (.int .i64 5) := by rw [ez]; simp (maxDischargeDepth := 9) [go_sem, *]
          have g2 : z.cell? ⟨CB, 2, none⟩ = some (.int .i64 (nextF 4 r').1) := by rw [ez]; simp (maxDischargeDepth := 9) [go_sem, *]
          have g3 : z.cell? ⟨CB, 3, none⟩ = some (.bool nul) := by rw [ez]; simp (maxDischargeDepth := 9) [go_sem, *]
          clear ez d0 d1 d2 d3 M C MC
          have q0 := MZ.c0
          have ow := Lib.hid MZ.own
          have zl := MZ.mv.size
          have ML := Lib.hid MZ
          clear MZ
          go_wp2_with (at_builtin; go_must (refine wpList_append_lies _ rfl _ _ 22 rfl y.heap.size 58 i0 _ 4 40 Tryz.underlying22 hi hz0 hz1 hz2 rfl (by decide) v cs.length (cs.flatMap colC) rfl (ow.out.alloc _) ⟨z.heap.size, 0, none⟩ 1 1 (colC ⟨ltr gk, 5, (nextF 4 r').1, nul⟩) rfl rfl (World.news_of_block (heap_alloc_new z _)) (by simp [colC, Value.oneCell']) (by omega) (by unfold maxLen; omega) (by omega) (by simp; omega) (z.heap.size + 1) (by simp) ?_); intro gb cap w1 hown hgrow hat hlt; obtain ⟨k0, k1⟩ := (ML.out.al _).far hgrow; have OW := Lib.hid (And.intro hown hgrow); clear hown hgrow hat hlt)
          have n4 := nextF_bd r' (n := 4) (by decide)
          go_roundg (gk - 1)
          case measure => omega
          case rel =>
            refine ⟨cs ++ [⟨ltr gk, 5, (nextF 4 r').1, nul⟩], _, _, by go_num, by rw [List.length_append]; show cs.length + 1 + (gk - 1) = N0; omega, ?_, (ML.out.al _).step OW.out.2 OW.out.1⟩
            have hok' : ScOk (gk - 1 + 1) cs := by rw [show gk - 1 + 1 = gk by omega]; exact hok
            have := hok'.snoc (nul := nul) (ty := 5) (sc := (nextF 4 r').1) (by omega) (by omega) (by omega) (by omega) (by omega) (by omega)
            rw [show gk - 1 + 1 = gk by omega] at this
            exact this
        · have td' : (ty == 5) = false := by simpa using td
          go_upto_region 9 with fail
          refine captureM ?_
          intro z ez
          have MZ : ScMem y (w.heap.size + 1) ob z v cs r' := by rw [ez]; exact MC
          have g0 : z.cell? ⟨CB, 0, none⟩ = some (.string (ltr gk)) := by rw [ez]; simp (maxDischargeDepth := 9) [go_sem, *]
          have g1 : z.cell? ⟨CB, 1, none⟩ = some (.int .i64 ty) := by rw [ez]; simp (maxDischargeDepth := 9) [go_sem, *]
          have g2 : z.cell? ⟨CB, 2, none⟩ = some (.int .i64 0) := by rw [ez]; simp (maxDischargeDepth := 9) [go_sem, *]
          have g3 : z.cell? ⟨CB, 3, none⟩ = some (.bool nul) := by rw [ez]; simp (maxDischargeDepth := 9) [go_sem, *]
          clear ez d0 d1 d2 d3 M C MC
          have q0 := MZ.c0
          have ow := Lib.hid MZ.own
          have zl := MZ.mv.size
          have ML := Lib.hid MZ
          clear MZ
          go_wp2_with (at_builtin; go_must (refine wpList_append_lies _ rfl _ _ 22 rfl y.heap.size 58 i0 _ 4 40 Tryz.underlying22 hi hz0 hz1 hz2 rfl (by decide) v cs.length (cs.flatMap colC) rfl (ow.out.alloc _) ⟨z.heap.size, 0, none⟩ 1 1 (colC ⟨ltr gk, ty, 0, nul⟩) rfl rfl (World.news_of_block (heap_alloc_new z _)) (by simp [colC, Value.oneCell']) (by omega) (by unfold maxLen; omega) (by omega) (by simp; omega) (z.heap.size + 1) (by simp) ?_); intro gb cap w1 hown hgrow hat hlt; obtain ⟨k0, k1⟩ := (ML.out.al _).far hgrow; have OW := Lib.hid (And.intro hown hgrow); clear hown hgrow hat hlt)
          go_roundg (gk - 1)
          case measure => omega
          case rel =>
            refine ⟨cs ++ [⟨ltr gk, ty, 0, nul⟩], _, _, by go_num, by rw [List.length_append]; show cs.length + 1 + (gk - 1) = N0; omega, ?_, (ML.out.al _).step OW.out.2 OW.out.1⟩
            have hok' : ScOk (gk - 1 + 1) cs := by rw [show gk - 1 + 1 = gk by omega]; exact hok
            have := hok'.snoc (nul := nul) (ty := ty) (sc := 0) (by omega) (by omega) (by omega) (by omega) (by omega) (by omega)
            rw [show gk - 1 + 1 = gk by omega] at this
            exact this
theorem keepSchema_any (lv : Value) (zs : List Int) (w : World) (h : IntsAt w w.heap.size lv zs) :
    Calls Tryz.prog 7 #[lv] w fun e w' => ∃ v cs key, e = .returned (.agg #[v, .int .i64 key]) ∧ ColsAt w' w'.heap.size v cs ∧ schemaF cs key = 0 ∧ cs.length ≤ 4 ∧ Below w.heap.size w w' :=
  (keepSchemaN_any lv zs w h).mono fun e w' ⟨v, cs, key, h1, h2, h3, _, h5, h6⟩ => ⟨v, cs, key, h1, h2, h3, h5, h6⟩
end Go.Proofs.YtpahoenanfjhpaaGreat
