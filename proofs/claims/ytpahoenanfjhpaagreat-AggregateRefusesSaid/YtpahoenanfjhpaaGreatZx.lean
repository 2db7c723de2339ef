/-
  CHAPTER 26: Rfl, Mrf (several texts in one). Conditions: each theorem states its own.
-/
import Derived.Test.YtpahoenanfjhpaaGreatZv
import Derived.Test.YtpahoenanfjhpaaGreatZk
import Derived.Test.YtpahoenanfjhpaaGreatZbqz
set_option linter.unusedVariables false
set_option linter.unusedSimpArgs false
namespace Go.Proofs.YtpahoenanfjhpaaGreat
open Go.RowKit
def zNm : ByteArray := ⟨#[122]⟩
def renC (c : Col) : Col := ⟨zNm, c.ty, c.sc, c.nul⟩
def renL : List Col → Nat → List Col
  | [], _ => []
  | c :: r, 0 => renC c :: r
  | c :: r, j + 1 => c :: renL r j
theorem renL_len : ∀ (cs : List Col) (j : Nat), (renL cs j).length = cs.length
  | [], _ => rfl
  | c :: r, 0 => rfl
  | c :: r, j + 1 => by simp [renL, renL_len r j]
theorem renL_at : ∀ (cs : List Col) (j i : Nat) (h : i < cs.length) (h' : i < (renL cs j).length), (renL cs j)[i]'(h') = if i = j then renC (cs[i]'h) else cs[i]'h
  | [], _, _, h, _ => absurd h (by simp)
  | c :: r, 0, 0, _, _ => rfl
  | c :: r, 0, i + 1, _, _ => by simp [renL]
  | c :: r, j + 1, 0, _, _ => by simp [renL]
  | c :: r, j + 1, i + 1, h, h' => by
    have q := renL_at r j i (by simpa using h) (by simpa [renL] using h')
    simp only [renL, List.getElem_cons_succ, q, Nat.add_right_cancel_iff]
/-- Columns that differ in their names alone. -/
def Twin (cs cs2 : List Col) : Prop := cs2.length = cs.length ∧ ∀ i (h : i < cs.length) (h' : i < cs2.length), (cs2[i]'(h')).ty = (cs[i]'h).ty ∧ (cs2[i]'(h')).sc = (cs[i]'h).sc ∧ (cs2[i]'(h')).nul = (cs[i]'h).nul
theorem renL_twin (cs : List Col) (j : Nat) : Twin cs (renL cs j) := by
  refine ⟨renL_len cs j, fun i h h' => ?_⟩
  rw [renL_at cs j i h h']
  by_cases q : i = j
  · rw [if_pos q]; exact ⟨rfl, rfl, rfl⟩
  · rw [if_neg q]; exact ⟨rfl, rfl, rfl⟩
theorem Twin.nodE {cs cs2 : List Col} (h : Twin cs cs2) (i : Int) (d : Nod) : nodE cs2 i d = nodE cs i d := by
  unfold Go.Proofs.YtpahoenanfjhpaaGreat.nodE
  rw [h.1]
  by_cases q : d.col.toNat < cs.length
  · have q' : d.col.toNat < cs2.length := by rw [h.1]; exact q
    have t := h.2 _ q q'
    rw [List.getElem?_eq_getElem q, List.getElem?_eq_getElem q']
    dsimp only
    rw [t.1, t.2.2]
  · rw [List.getElem?_eq_none (l := cs2) (by rw [h.1]; omega), List.getElem?_eq_none (l := cs) (by omega)]
theorem Twin.nodsE {cs cs2 : List Col} (h : Twin cs cs2) : ∀ (ns : List Nod) (i : Int), nodsE cs2 i ns = nodsE cs i ns
  | [], _ => rfl
  | d :: r, i => by
    simp only [Go.Proofs.YtpahoenanfjhpaaGreat.nodsE, h.nodE, h.nodsE r]
theorem Twin.colTy {cs cs2 : List Col} (h : Twin cs cs2) (c : Int) : colTy cs2 c = colTy cs c := by
  unfold Go.Proofs.YtpahoenanfjhpaaGreat.colTy
  by_cases q : c.toNat < cs.length
  · have q' : c.toNat < cs2.length := by rw [h.1]; exact q
    rw [List.getElem?_eq_getElem q, List.getElem?_eq_getElem q']
    exact (h.2 _ q q').1
  · rw [List.getElem?_eq_none (l := cs2) (by rw [h.1]; omega), List.getElem?_eq_none (l := cs) (by omega)]
theorem Twin.agE {cs cs2 : List Col} (h : Twin cs cs2) (a : Ag) : agE cs2 a = agE cs a := by
  unfold Go.Proofs.YtpahoenanfjhpaaGreat.agE
  rw [h.1, h.colTy]
theorem Twin.agsE {cs cs2 : List Col} (h : Twin cs cs2) : ∀ l : List Ag, agsE cs2 l = agsE cs l
  | [] => rfl
  | a :: l => by
    simp only [Go.Proofs.YtpahoenanfjhpaaGreat.agsE, h.agE, h.agsE l]
theorem Twin.outC {cs cs2 : List Col} (h : Twin cs cs2) (l : List Int) : outC cs2 l = outC cs l := by
  unfold Go.Proofs.YtpahoenanfjhpaaGreat.outC
  rw [h.1]
/-- The query stays valid where a valid schema differs in its names alone. -/
theorem Twin.query {cs cs2 : List Col} {key : Int} {ns : List Nod} {pr gr : List Int} {ag : List Ag} (h : Twin cs cs2) (hs : schemaF cs key = 0) (hs2 : schemaF cs2 key = 0) (hq : queryE cs key ns pr gr ag = 0) : queryE cs2 key ns pr gr ag = 0 := by
  have e : predF cs2 key ns = predF cs key ns := by
    unfold predF
    rw [hs, hs2, h.nodsE]
  unfold queryE at hq ⊢
  rw [e, h.outC, h.agsE]
  exact hq
theorem colE_zero {pre : List Col} {c : Col} : colE pre c = 0 ↔ nameF c.nm.toList = true ∧ (∀ d ∈ pre, ¬ d.nm.toList = c.nm.toList) ∧ ¬ (c.ty < 1 ∨ 5 < c.ty) ∧ ¬ (c.sc < 0 ∨ 18 < c.sc ∨ (¬ c.ty = 5 ∧ ¬ c.sc = 0)) := by
  unfold colE
  have an : (pre.any fun d => d.nm.toList == c.nm.toList) = true ↔ ¬ ∀ d ∈ pre, ¬ d.nm.toList = c.nm.toList := by
    simp only [List.any_eq_true, beq_iff_eq]
    exact ⟨fun ⟨d, h1, h2⟩ q => q d h1 h2, fun q => Classical.byContradiction fun n => q fun d h1 h2 => n ⟨d, h1, h2⟩⟩
  by_cases h1 : nameF c.nm.toList = true
  · rw [if_neg (by rw [h1]; decide)]
    by_cases h2 : ∀ d ∈ pre, ¬ d.nm.toList = c.nm.toList
    · rw [if_neg (by rw [an]; exact fun q => q h2)]
      by_cases h3 : c.ty < 1 ∨ 5 < c.ty
      · rw [if_pos h3]
        exact ⟨fun q => absurd q (by decide), fun q => absurd h3 q.2.2.1⟩
      · rw [if_neg h3]
        by_cases h4 : c.sc < 0 ∨ 18 < c.sc ∨ (¬ c.ty = 5 ∧ ¬ c.sc = 0)
        · rw [if_pos h4]
          exact ⟨fun q => absurd q (by decide), fun q => absurd h4 q.2.2.2⟩
        · rw [if_neg h4]
          exact ⟨fun _ => ⟨h1, h2, h3, h4⟩, fun _ => rfl⟩
    · rw [if_pos (an.2 h2)]
      exact ⟨fun q => absurd q (by decide), fun q => absurd q.2.1 h2⟩
  · rw [if_pos (by simpa using h1)]
    exact ⟨fun q => absurd q (by decide), fun q => absurd q.1 h1⟩
theorem colsE_cons {pre : List Col} {c : Col} {r : List Col} : colsE pre (c :: r) = 0 ↔ colE pre c = 0 ∧ colsE (pre ++ [c]) r = 0 := by
  simp only [colsE]
  by_cases q : colE pre c = 0
  · rw [if_pos q]; exact ⟨fun h => ⟨q, h⟩, fun h => h.2⟩
  · rw [if_neg q]; exact ⟨fun h => absurd h q, fun h => absurd h.1 q⟩
theorem colsE_pre : ∀ (cs pre pre2 : List Col), colsE pre cs = 0 → (∀ c ∈ cs, ¬ zNm.toList = c.nm.toList) → (∀ d ∈ pre2, d.nm.toList = zNm.toList ∨ ∃ e ∈ pre, e.nm.toList = d.nm.toList) → colsE pre2 cs = 0
  | [], _, _, _, _, _ => rfl
  | c :: r, pre, pre2, h, hz, hp => by
    rw [colsE_cons, colE_zero] at h ⊢
    refine ⟨⟨h.1.1, fun d hd q => ?_, h.1.2.2⟩, colsE_pre r _ _ h.2 (fun c hc => hz c (by simp [hc])) fun d hd => ?_⟩
    · rcases hp d hd with e | ⟨e, he, e2⟩
      · exact hz c (by simp) (e.symm.trans q)
      · exact h.1.2.1 e he (e2.trans q)
    · rcases List.mem_append.1 hd with hd | hd
      · exact (hp d hd).imp id fun ⟨e, he, e2⟩ => ⟨e, by simp [he], e2⟩
      · exact .inr ⟨c, by simp, by rw [List.mem_singleton.1 hd]⟩
theorem zNm_ok : nameF zNm.toList = true := by
  rw [ByteArray.toList_eq]; decide
theorem colsE_ren : ∀ (cs pre : List Col) (j : Nat), colsE pre cs = 0 → (∀ c ∈ cs, ¬ zNm.toList = c.nm.toList) → (∀ c ∈ pre, ¬ zNm.toList = c.nm.toList) → colsE pre (renL cs j) = 0
  | [], _, _, _, _, _ => rfl
  | c :: r, pre, 0, h, hz, hp => by
    have hh := h
    rw [colsE_cons, colE_zero] at h
    show colsE pre (renC c :: r) = 0
    rw [colsE_cons, colE_zero]
    refine ⟨⟨zNm_ok, fun d hd q => hp d hd q.symm, h.1.2.2⟩, colsE_pre r _ _ h.2 (fun c hc => hz c (by simp [hc])) fun d hd => ?_⟩
    rcases List.mem_append.1 hd with hd | hd
    · exact .inr ⟨d, by simp [hd], rfl⟩
    · rw [List.mem_singleton.1 hd]; exact .inl rfl
  | c :: r, pre, j + 1, h, hz, hp => by
    rw [colsE_cons] at h
    show colsE pre (c :: renL r j) = 0
    rw [colsE_cons]
    refine ⟨h.1, colsE_ren r _ j h.2 (fun c hc => hz c (by simp [hc])) fun d hd => ?_⟩
    rcases List.mem_append.1 hd with hd | hd
    · exact hp d hd
    · rw [List.mem_singleton.1 hd]; exact hz c (by simp)
theorem ltr_z {m : Nat} (h1 : 0 < m) (h4 : m ≤ 4) : ¬ zNm.toList = (ltr m).toList := by
  have : m = 1 ∨ m = 2 ∨ m = 3 ∨ m = 4 := by omega
  rw [ByteArray.toList_eq, ByteArray.toList_eq]
  rcases this with rfl | rfl | rfl | rfl <;> decide
theorem ScOk.noz {cs : List Col} (h : ScOk 0 cs) : ∀ c ∈ cs, ¬ zNm.toList = c.nm.toList := fun c hc => by
  obtain ⟨j, h0, h4, e⟩ := h.2 c hc
  rw [e]; exact ltr_z h0 h4
theorem ScOk.ren {cs : List Col} {key : Int} (h : ScOk 0 cs) (hs : schemaF cs key = 0) (j : Nat) : schemaF (renL cs j) key = 0 := by
  have e : colsE [] (renL cs j) = 0 := colsE_ren cs [] j h.1 h.noz (fun c hc => absurd hc (by simp))
  unfold schemaF at hs ⊢
  rw [renL_len, e]
  rw [h.1] at hs
  exact hs
/-- One node more. -/
def isNull0 : Nod := ⟨8, 0, ⟨false, 0, ⟨#[]⟩⟩, [], 0, 0⟩
theorem nodsE_more {cs : List Col} {d : Nod} (hd : ∀ i, nodE cs i d = 0) : ∀ (ns : List Nod) (i : Int), nodsE cs i ns = 0 → nodsE cs i (ns ++ [d]) = 0
  | [], i, _ => by simp [nodsE, hd]
  | e :: r, i, h => by
    simp only [List.cons_append, nodsE] at h ⊢
    by_cases q : nodE cs i e = 0
    · rw [if_pos q] at h ⊢; exact nodsE_more hd r (i + 1) h
    · rw [if_neg q] at h; exact absurd h q
theorem isNull_ok {cs : List Col} (h : 0 < cs.length) (i : Int) : nodE cs i isNull0 = 0 := by
  unfold nodE isNull0
  dsimp only
  rw [if_neg (by omega), if_neg (by omega), if_neg (by omega)]
  rw [show (0 : Int).toNat = 0 from rfl, List.getElem?_eq_getElem h]
  rfl
theorem query_more {cs : List Col} {key : Int} {ns : List Nod} {pr gr : List Int} {ag : List Ag} (hs : schemaF cs key = 0) (h0 : 0 < cs.length) (h7 : ns.length ≤ 7) (hq : queryE cs key ns pr gr ag = 0) : queryE cs key (ns ++ [isNull0]) pr gr ag = 0 := by
  have h1 : predF cs key ns = 0 := by
    unfold queryE at hq
    by_cases q : predF cs key ns = 0
    · exact q
    · rw [if_neg q] at hq; exact absurd hq q
  have h2 : predF cs key (ns ++ [isNull0]) = 0 := by
    unfold predF at h1 ⊢
    rw [if_pos hs] at h1 ⊢
    rw [if_neg (by omega)] at h1
    rw [if_neg (by rw [List.length_append]; show ¬ 64 < ns.length + 1; omega)]
    exact nodsE_more (isNull_ok h0) ns 0 h1
  unfold queryE at hq ⊢
  rw [if_pos h2]
  rw [if_pos h1] at hq
  exact hq
theorem rowsE_snoc {cs : List Col} {r : List Val} : ∀ {rows : List (List Val)}, rowsE cs rows = 0 → rowsE cs (rows ++ [r]) = rowE cs r
  | [], _ => by
    show (if rowE cs r = 0 then rowsE cs [] else rowE cs r) = _
    by_cases q : rowE cs r = 0
    · rw [if_pos q, q]; rfl
    · rw [if_neg q]
  | a :: l, h => by
    have h' : (if rowE cs a = 0 then rowsE cs l else rowE cs a) = 0 := h
    show (if rowE cs a = 0 then rowsE cs (l ++ [r]) else rowE cs a) = _
    by_cases q : rowE cs a = 0
    · rw [if_pos q] at h' ⊢; exact rowsE_snoc h'
    · rw [if_neg q] at h'; exact absurd h' q
theorem batchE_short {cs : List Col} {key : Int} {rows : List (List Val)} (hs : schemaF cs key = 0) (h0 : 0 < cs.length) (h4 : rows.length < 4096) (hr : ∀ r ∈ rows, r.length = cs.length ∧ RowPre cs r) : batchE cs key (rows ++ [[]]) = 1 := by
  have h := batchE_rows (key := key) hs (by omega) hr
  unfold batchE at h ⊢
  rw [if_pos hs, if_neg (by omega)] at h
  rw [if_pos hs, if_neg (by rw [List.length_append]; show ¬ 4096 < rows.length + 1; omega), rowsE_snoc h]
  unfold rowE
  rw [if_neg (by simp; omega)]
/-- A column renamed in memory. -/
theorem cols_ren {w : World} {B b c : Nat} {cs : List Col} {j : Nat} (hj : j < cs.length) (h : ColsAt w B (.slice (some ⟨b, 0, none⟩) cs.length c) cs) : ColsAt (w.setCell ⟨b, j * 4, none⟩ (.string zNm)) B (.slice (some ⟨b, 0, none⟩) (renL cs j).length c) (renL cs j) := by
  obtain ⟨b', o', e1, hcap, hb, _⟩ := cols_in h hj
  injection e1 with e1
  injection e1 with e1 e2
  subst e1
  have e2' : o' = 0 := e2.symm
  refine ⟨by rw [renL_len]; exact h.1, .inr ⟨b, 0, c, by rfl, by rw [renL_len]; exact hcap, hb, fun i hi => ?_⟩⟩
  have hi' : i < cs.length := by rw [renL_len] at hi; exact hi
  obtain ⟨b2, o2, e3, _, _, c0, c1, c2, c3⟩ := cols_in h hi'
  injection e3 with e3
  injection e3 with e3 e4
  subst e3
  subst e4
  rw [renL_at cs j i hi' hi]
  by_cases q : i = j
  · subst q
    rw [if_pos rfl]
    refine ⟨?_, cell_other c1 (by omega), cell_other c2 (by omega), cell_other c3 (by omega)⟩
    have := cell_same (u := .string zNm) c0
    rw [Nat.zero_add] at this ⊢
    exact this
  · rw [if_neg q]
    exact ⟨cell_other c0 (by omega), cell_other c1 (by omega), cell_other c2 (by omega), cell_other c3 (by omega)⟩
end Go.Proofs.YtpahoenanfjhpaaGreat
namespace Go.Proofs.YtpahoenanfjhpaaGreat
open Go.RowKit
set_option maxRecDepth 8000 in
set_option maxHeartbeats 1000000 in
theorem mrf_nil (SA : Nat) (w : World) : Calls Tryz.prog 18 #[.pointer (some ⟨SA, 0, none⟩), .pointer none] w fun e w' => e = .returned (.int .i64 1) ∧ Below w.heap.size w w' := by
  go_enter Tryz.func18, Tryz.ntmps18
  go_wp2
  exact bodyPost_ret (v := .int .i64 1) (by simp [results, Tryz.results18, go_sem, *]) rfl (⟨rfl, by with_reducible repeat (first | exact Below.refl _ _ | assumption | refine Below.al ?_ _ | refine Below.on ?_ _ | refine Below.st ?_ (by first | assumption | (simp; done) | (simp; omega)) _ | refine Below.drew ?_)⟩)
set_option maxRecDepth 8000 in
set_option maxHeartbeats 1000000 in
theorem mrf_any (SA SB : Nat) (w : World) (h : Calls Tryz.prog 47 #[.pointer (some ⟨SA, 0, none⟩), .pointer (some ⟨SB, 0, none⟩)] w fun e w' => e = .returned (.bool false) ∧ Below w.heap.size w w') :
    Calls Tryz.prog 18 #[.pointer (some ⟨SA, 0, none⟩), .pointer (some ⟨SB, 0, none⟩)] w fun e w' => e = .returned (.int .i64 1) ∧ Below w.heap.size w w' := by
  have SE := Lib.hid h
  clear h
  go_enter Tryz.func18, Tryz.ntmps18
  go_wp2_with (go_at_call 47; refine Calls.mono SE.out ?_; rintro e w1 ⟨rfl, hb1⟩; obtain ⟨x1, rfl⟩ := Ext.of hb1)
  exact bodyPost_ret (v := .int .i64 1) (by simp [results, Tryz.results18, go_sem, *]) rfl (⟨rfl, by with_reducible repeat (first | exact Below.refl _ _ | assumption | refine Below.al ?_ _ | refine Below.on ?_ _ | refine Below.st ?_ (by first | assumption | (simp; done) | (simp; omega)) _ | refine Below.drew ?_)⟩)
end Go.Proofs.YtpahoenanfjhpaaGreat
