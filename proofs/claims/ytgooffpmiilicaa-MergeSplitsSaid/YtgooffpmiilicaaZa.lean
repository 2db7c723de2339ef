/-
  CHAPTER 29: one, list, Least, awake (several texts in one). Conditions: each theorem states its own.
-/
import Derived.Test.YtgooffpmiilicaaMrg
import Derived.Test.YtgooffpmiilicaaOps
set_option linter.unusedVariables false
set_option linter.unusedSimpArgs false
namespace Go.Proofs.Ytgooffpmiilicaa
open Go.RowKit Srt
def aCol : Col := ⟨⟨#[97]⟩, 1, 0, false⟩
theorem a_tl0 : (⟨#[]⟩ : ByteArray).toList = [] := by rw [ByteArray.toList_eq]
theorem a_tl : (⟨#[97]⟩ : ByteArray).toList = [97] := by rw [ByteArray.toList_eq]
theorem a_name : nameF [97] = true := by decide
theorem a_schema : schemaF [aCol] 0 = 0 := by
  simp [schemaF, colsE, colE, aCol, a_tl, a_name]
def OnePost (w : World) (e : Ending) (w' : World) : Prop := ∃ g, e = .returned (.agg #[.slice (some ⟨g, 0, none⟩) 1 1, .int .i64 0]) ∧ ColsAt w' w'.heap.size (.slice (some ⟨g, 0, none⟩) 1 1) [aCol] ∧ Below w.heap.size w w'
set_option maxRecDepth 8000 in
theorem one_any (w : World) : Calls Try.prog 11 #[] w (OnePost w) := by
  go_enter Try.func11, Try.ntmps11
  go_wp2
  refine bodyPost_ret (v := .agg #[.slice (some ⟨w.heap.size + 1, 0, none⟩) 1 1, .int .i64 0]) (by simp [results, Try.results11, go_sem, *]) rfl ⟨_, rfl, ⟨by simp, .inr ⟨_, 0, 1, rfl, by simp, by simp, fun j hj => ?_⟩⟩, by repeat (first | with_reducible exact Below.refl _ _ | with_reducible assumption | with_reducible refine Below.al ?_ _ | with_reducible refine Below.on ?_ _ | with_reducible refine Below.st ?_ (by first | assumption | (simp; done) | (simp; omega)) _ | with_reducible refine Below.drew ?_)⟩
  obtain rfl : j = 0 := by (simp at hj; omega)
  exact ⟨by simp [go_sem, aCol], by simp [go_sem, aCol], by simp [go_sem, aCol], by simp [go_sem, aCol]⟩
/-- Records with the given keys and ascending numbers. -/
def listF (seq : Int) : List Int → List Rc
  | [] => []
  | z :: r => ⟨seq, [⟨false, z, ⟨#[]⟩⟩]⟩ :: listF (seq + 1) r
theorem listF_len : ∀ (zs : List Int) (seq : Int), (listF seq zs).length = zs.length
  | [], _ => rfl
  | z :: r, seq => by show (listF (seq + 1) r).length + 1 = _; rw [listF_len r]; rfl
theorem listF_snoc : ∀ (zs : List Int) (seq z : Int), listF seq (zs ++ [z]) = listF seq zs ++ [⟨seq + zs.length, [⟨false, z, ⟨#[]⟩⟩]⟩]
  | [], seq, z => by simp [listF]
  | y :: r, seq, z => by
    show ⟨seq, _⟩ :: listF (seq + 1) (r ++ [z]) = _
    rw [listF_snoc r]
    simp only [listF, List.cons_append, List.length_cons]
    congr 4
    omega
theorem listF_take {zs : List Int} {k : Nat} (hk : k < zs.length) (seq : Int) : listF seq (zs.take (k + 1)) = listF seq (zs.take k) ++ [⟨seq + k, [⟨false, zs[k]'hk, ⟨#[]⟩⟩]⟩] := by
  rw [List.take_succ_eq_append_getElem hk, listF_snoc, List.length_take, Nat.min_eq_left (by omega)]
def ListPost (w : World) (rs : List Rc) (e : Ending) (w' : World) : Prop := ∃ v, e = .returned v ∧ RecsAt w' w'.heap.size v rs ∧ Below w.heap.size w w'
set_option maxRecDepth 8000 in
set_option maxHeartbeats 1000000 in
theorem list_own (seq : Int) (lv : Value) (zs : List Int) (w : World) (h : IntsAt w w.heap.size lv zs) (h0 : 0 ≤ seq) (h1 : seq ≤ 1000) (hz : zs.length ≤ 100000) :
    Calls Try.prog 12 #[.int .i64 seq, lv] w (OwnPost w (listF seq zs)) := by
  obtain ⟨i0, hi, hz0, hz1, hz2⟩ := info_parts infoRec
  have HI := Lib.hid h
  obtain ⟨za, zc, rfl⟩ := ints_end h
  obtain ⟨N, hN⟩ : ∃ N, zs.length = N := ⟨_, rfl⟩
  have HN := Lib.hid hN
  rw [hN] at HI hz ⊢
  clear h hN
  go_enter Try.func12, Try.ntmps12
  go_wp2_with fail
  go_loopg [5, 10] N (fun g ov st wr => ∃ (k : Nat) (ps : List (Int × Value)), k + g = N ∧ st = .int .i64 (k : Int) ∧ OwnMem w wr ov ps (listF seq (zs.take k)))
  case atStart => exact ⟨0, [], by omega, rfl, Below.refl _ _, World.ownsRow_nil _ _ _ _, by rw [List.take_zero]; exact ⟨rfl, fun j hj => absurd hj (by simp)⟩⟩
  case round =>
    obtain ⟨k, ps, hk, rfl, M⟩ := hrel
    have MH := Lib.hid M
    have PL : ps.length = k := by rw [M.inn.1, listF_len, List.length_take, HN.out]; omega
    obtain ⟨va, vc, ev⟩ := own_form M.own
    rw [PL] at ev
    subst ev
    have hx := M.below
    have PH := Lib.hid PL
    clear M PL
    by_cases hg0 : gk = 0
    · subst hg0
      obtain rfl : N = k := by omega
      clear hk
      go_wp2_with fail
      have e : zs.take N = zs := List.take_of_length_le (by rw [HN.out]; exact Nat.le_refl _)
      have MO := MH.out
      rw [e] at MO
      refine bodyPost_ret (v := .slice va N vc) ?_ rfl ⟨_, ps, rfl, MO⟩
      simp (maxDischargeDepth := 9) [results, Try.results12, go_sem, *]
    · have hkn : k < N := by omega
      have hkl : k < zs.length := by rw [HN.out]; exact hkn
      have hkn' : (k : Int) < (N : Int) := by omega
      obtain ⟨zb, zo, zc', ev2, hzb, cz⟩ := ints_in HI.out hkl
      injection ev2 with ev2 ev4 ev3
      subst ev2
      have TS := Lib.hid (listF_take hkl seq)
      obtain ⟨z, hz'⟩ : ∃ z, zs[k]'hkl = z := ⟨_, rfl⟩
      have c0 := cz k hkl
      have eg : zs.getD k 0 = zs[k]'hkl := by simp [List.getD, List.getElem?_eq_getElem hkl]
      rw [eg, hz'] at c0
      have HZ : Hid (listF seq (zs.take (k + 1)) = listF seq (zs.take k) ++ [⟨seq + k, [⟨false, z, ⟨#[]⟩⟩]⟩]) := Lib.hid (by rw [TS.out, hz'])
      have f0 := (hx.cell (p := ⟨zb, zo + k, none⟩) hzb).trans c0
      have fz : zb < wr.heap.size := Nat.lt_of_lt_of_le hzb hx.size
      have GZ := Lib.hid (And.intro hk hg0)
      have k1 : (k : Int) ≤ 100000 := by omega
      have zx := hx.size
      clear c0 cz ev3 ev4 eg hk hg0 TS hz' hx
      have OWN2 : Hid (((wr.alloc (.cells #[.bool false, .int .i64 z, .string ⟨#[]⟩] 37)).alloc (.cells #[.int .i64 (seq + (k : Int)), .slice (some ⟨wr.heap.size, 0, none⟩) 1 1] 35)).ownsRow w.heap.size 35 2 (.slice va k vc) k (ps.flatMap rcC)) := Lib.hid (by have := MH.out.own; rw [PH.out] at this; exact (this.alloc _).alloc _)
      have NEWS : Hid (∀ (j : Nat) (u : Value), [Value.int .i64 (seq + (k : Int)), .slice (some ⟨wr.heap.size, 0, none⟩) 1 1][j]? = some u → ((wr.alloc (.cells #[.bool false, .int .i64 z, .string ⟨#[]⟩] 37)).alloc (.cells #[.int .i64 (seq + (k : Int)), .slice (some ⟨wr.heap.size, 0, none⟩) 1 1] 35)).cell? ((⟨wr.heap.size + 1, 0, none⟩ : Addr).add j) = some u) := Lib.hid (by
        have := World.news_of_block (heap_alloc_new (wr.alloc (.cells #[.bool false, .int .i64 z, .string ⟨#[]⟩] 37)) (.cells #[.int .i64 (seq + (k : Int)), .slice (some ⟨wr.heap.size, 0, none⟩) 1 1] 35))
        rw [World.size_alloc] at this
        exact this)
      have BW : Hid (Below wr.heap.size wr ((wr.alloc (.cells #[.bool false, .int .i64 z, .string ⟨#[]⟩] 37)).alloc (.cells #[.int .i64 (seq + (k : Int)), .slice (some ⟨wr.heap.size, 0, none⟩) 1 1] 35))) := Lib.hid (by exact (by repeat (first | with_reducible exact Below.refl _ _ | with_reducible assumption | with_reducible refine Below.al ?_ _ | with_reducible refine Below.on ?_ _ | with_reducible refine Below.st ?_ (by first | assumption | (simp; done) | (simp; omega)) _ | with_reducible refine Below.drew ?_)))
      have VW : Hid (ValsAt ((wr.alloc (.cells #[.bool false, .int .i64 z, .string ⟨#[]⟩] 37)).alloc (.cells #[.int .i64 (seq + (k : Int)), .slice (some ⟨wr.heap.size, 0, none⟩) 1 1] 35)) ((wr.alloc (.cells #[.bool false, .int .i64 z, .string ⟨#[]⟩] 37)).alloc (.cells #[.int .i64 (seq + (k : Int)), .slice (some ⟨wr.heap.size, 0, none⟩) 1 1] 35)).heap.size (.slice (some ⟨wr.heap.size, 0, none⟩) 1 1) [⟨false, z, ⟨#[]⟩⟩]) := Lib.hid ⟨by simp, .inr ⟨wr.heap.size, 0, 1, rfl, by simp, by simp; omega, fun j hj => by
        obtain rfl : j = 0 := by (simp at hj; omega)
        exact ⟨by simp [go_sem], by simp [go_sem], by simp [go_sem]⟩⟩⟩
      have FIN : Hid (∀ gb cap w7, w7.ownsRow w.heap.size 35 2 (.slice (some ⟨gb, 0, none⟩) (k + 1) cap) (k + 1) (ps.flatMap rcC ++ [.int .i64 (seq + (k : Int)), .slice (some ⟨wr.heap.size, 0, none⟩) 1 1]) → ((wr.alloc (.cells #[.bool false, .int .i64 z, .string ⟨#[]⟩] 37)).alloc (.cells #[.int .i64 (seq + (k : Int)), .slice (some ⟨wr.heap.size, 0, none⟩) 1 1] 35)).grownBy w7 (Value.slice va k vc).ownBlock → ((Value.slice va k vc).ownBlock = some gb ∨ gb = wr.heap.size + 1 + 1) → OwnMem w w7 (.slice (some ⟨gb, 0, none⟩) (k + 1) cap) (ps ++ [(seq + (k : Int), .slice (some ⟨wr.heap.size, 0, none⟩) 1 1)]) (listF seq (zs.take (k + 1)))) := Lib.hid (fun gb cap w7 hown hgrow hat => by
        rw [HZ.out]
        refine (MH.out.on BW.out).step (lv := .slice (some ⟨wr.heap.size, 0, none⟩) 1 1) VW.out (fun q hq => ?_) hgrow (by rw [PH.out]; exact hown) (hat.imp (fun q => q.trans rfl) (fun q => by rw [q]; simp [Value.ownBlock]))
        have e : wr.heap.size = q := by injection hq
        exact ⟨by omega, by simp; omega, fun e2 => by have := (MH.out.own.lt q (by rw [PH.out] at *; exact e2)).2; omega⟩)
      go_wp2_with (at_builtin; go_loud (refine wpList_append_lies _ rfl _ _ 22 rfl w.heap.size 35 i0 _ 2 32 Try.underlying22 hi hz0 hz1 hz2 rfl (by decide) (.slice va k vc) k (ps.flatMap rcC) rfl OWN2.out ⟨wr.heap.size + 1, 0, none⟩ 1 1 [.int .i64 (seq + (k : Int)), .slice (some ⟨wr.heap.size, 0, none⟩) 1 1] rfl rfl NEWS.out (by simp [Value.oneCell']) (by omega) (by unfold maxLen; omega) (by omega) (by simp; omega) (wr.heap.size + 1 + 1) (by simp) ?_); intro gb cap w7 hown hgrow hat hlt7; have MS := Lib.hid (FIN.out gb cap w7 hown hgrow hat); clear hown hgrow hat hlt7)
      go_roundg (gk - 1)
      case measure => have := GZ.out.2; omega
      case rel => exact ⟨k + 1, ps ++ [(seq + (k : Int), .slice (some ⟨wr.heap.size, 0, none⟩) 1 1)], by have := GZ.out; omega, by go_num, MS.out⟩
theorem list_any (seq : Int) (lv : Value) (zs : List Int) (w : World) (h : IntsAt w w.heap.size lv zs) (h0 : 0 ≤ seq) (h1 : seq ≤ 1000) (hz : zs.length ≤ 100000) :
    Calls Try.prog 12 #[.int .i64 seq, lv] w (ListPost w (listF seq zs)) := by
  refine Calls.mono (list_own seq lv zs w h h0 h1 hz) ?_
  rintro e w' ⟨v, ps, rfl, M⟩
  exact ⟨v, rfl, inn_recs (by rw [listF_len]; omega) M.inn M.own, M.below⟩
/-- What the call has made is read in any world that keeps the call's new blocks. -/
theorem OwnMem.far {w wr W : World} {v : Value} {ps : List (Int × Value)} {rs : List Rc} (h : OwnMem w wr v ps rs) (hl : rs.length ≤ 9223372036854775807) (hk : ∀ k, w.heap.size ≤ k → k < wr.heap.size → W.heap[k]? = wr.heap[k]?) (hs : wr.heap.size ≤ W.heap.size) : RecsAt W W.heap.size v rs := by
  refine inn_recs (B0 := w.heap.size) (base := w.heap.size) (T := 35) (ps := ps) hl ⟨h.inn.1, fun j hj hj' => ?_⟩ ?_
  · obtain ⟨a1, a2, a3⟩ := h.inn.2 j hj hj'
    exact ⟨a1, (a2.keep fun k hb e => hk k (a3 k e).1 hb).up hs, fun k e => ⟨(a3 k e).1, Nat.lt_of_lt_of_le (a3 k e).2.1 hs, (a3 k e).2.2⟩⟩
  · exact own_keep h.own fun k e => hk k (h.own.lt k e).1 (h.own.lt k e).2
end Go.Proofs.Ytgooffpmiilicaa
namespace Go.Proofs.Ytgooffpmiilicaa
open Go.RowKit Srt
def rkC (p : Rk) : List Value := [.bool p.key.null, .int .i64 p.key.n, .string p.key.s, .int .i64 p.seq]
/-- In world w the value v is a slice of the ranks. -/
def RksAt (w : World) (B : Nat) (v : Value) (l : List Rk) : Prop :=
  l.length ≤ 9223372036854775807 ∧ ((l = [] ∧ ∃ a c, v = .slice a 0 c) ∨ ∃ b o c, v = .slice (some ⟨b, o, none⟩) l.length c ∧ l.length ≤ c ∧ b < B ∧ ∀ j (h : j < l.length),
    w.cell? ⟨b, o + j * 4, none⟩ = some (.bool (l[j]'h).key.null) ∧ w.cell? ⟨b, o + j * 4 + 1, none⟩ = some (.int .i64 (l[j]'h).key.n) ∧ w.cell? ⟨b, o + j * 4 + 2, none⟩ = some (.string (l[j]'h).key.s) ∧ w.cell? ⟨b, o + j * 4 + 3, none⟩ = some (.int .i64 (l[j]'h).seq))
theorem rks_end {w : World} {B : Nat} {v : Value} {l : List Rk} (h : RksAt w B v l) : ∃ a c, v = .slice a l.length c := by
  rcases h.2 with ⟨e, a, c, rfl⟩ | ⟨b, o, c, rfl, _⟩
  · exact ⟨a, c, by rw [e]; rfl⟩
  · exact ⟨_, c, rfl⟩
theorem rks_in {w : World} {B : Nat} {a : Option Addr} {n c : Nat} {l : List Rk} (h : RksAt w B (.slice a n c) l) (hi : 0 < l.length) : ∃ b o, a = some ⟨b, o, none⟩ ∧ b < B ∧ ∀ j (h : j < l.length),
    w.cell? ⟨b, o + j * 4, none⟩ = some (.bool (l[j]'h).key.null) ∧ w.cell? ⟨b, o + j * 4 + 1, none⟩ = some (.int .i64 (l[j]'h).key.n) ∧ w.cell? ⟨b, o + j * 4 + 2, none⟩ = some (.string (l[j]'h).key.s) ∧ w.cell? ⟨b, o + j * 4 + 3, none⟩ = some (.int .i64 (l[j]'h).seq) := by
  rcases h.2 with ⟨e, _⟩ | ⟨b, o, c, hv, _, hb, hc⟩
  · subst e; exact absurd hi (by simp)
  · injection hv with h1 h2 h3
    exact ⟨b, o, h1, hb, hc⟩
theorem RksAt.mono {w w' : World} {B B' : Nat} {v : Value} {l : List Rk} (h : RksAt w B v l) (hb : Below B w w') (hB : B ≤ B') : RksAt w' B' v l := by
  refine ⟨h.1, h.2.imp id ?_⟩
  rintro ⟨b, o, c, hv, hcap, hlt, hc⟩
  refine ⟨b, o, c, hv, hcap, Nat.lt_of_lt_of_le hlt hB, fun j hj => ?_⟩
  obtain ⟨h1, h2, h3, h4⟩ := hc j hj
  exact ⟨(hb.cell (p := ⟨b, _, none⟩) hlt).trans h1, (hb.cell (p := ⟨b, _, none⟩) hlt).trans h2, (hb.cell (p := ⟨b, _, none⟩) hlt).trans h3, (hb.cell (p := ⟨b, _, none⟩) hlt).trans h4⟩
theorem own_rks {w : World} {base : Nat} {T : TypeId} {v : Value} {l : List Rk} (hl : l.length ≤ 9223372036854775807) (h : w.ownsRow base T 4 v l.length (l.flatMap rkC)) : RksAt w w.heap.size v l := by
  rcases own_at (f := rkC) (k := 4) (fun _ => rfl) h with ⟨rfl, rfl⟩ | ⟨g, c, rfl, hc, _, hg, H⟩
  · exact ⟨hl, .inl ⟨rfl, none, 0, rfl⟩⟩
  · exact ⟨hl, .inr ⟨g, 0, c, rfl, hc, hg, fun j hj => ⟨by have := H j hj 0 _ (by omega) rfl; simpa using this, by have := H j hj 1 _ (by omega) rfl; simpa using this, by have := H j hj 2 _ (by omega) rfl; simpa using this, by have := H j hj 3 _ (by omega) rfl; simpa using this⟩⟩⟩
def rk0 : Rk := ⟨⟨false, 0, ⟨#[]⟩⟩, 0⟩
def lstep (t : Int) (L : List Rk) (b : Option Nat) (i : Nat) : Option Nat := match b with
  | none => some i
  | some k => if cmpR t (L.getD i rk0) (L.getD k rk0) < 0 then some i else some k
def leastO (t : Int) (L : List Rk) (k : Nat) : Option Nat := (List.range k).foldl (lstep t L) none
def bestV : Option Nat → Int
  | none => -1
  | some k => (k : Int)
def leastF (t : Int) (L : List Rk) : Int := bestV (leastO t L L.length)
theorem leastO_succ (t : Int) (L : List Rk) (k : Nat) : leastO t L (k + 1) = lstep t L (leastO t L k) k := by unfold leastO; rw [List.range_succ, List.foldl_append]; rfl
theorem cmpR_pre (t : Int) : Pre (cmpR t) := ⟨fun x y => by have := cmpR_neg t x y; omega, fun x y z h1 h2 => cmpR_trans h1 h2⟩
theorem leastO_spec (t : Int) (L : List Rk) : ∀ k, match leastO t L k with
    | none => k = 0
    | some b => b < k ∧ (∀ i, i < k → ¬ cmpR t (L.getD i rk0) (L.getD b rk0) < 0) ∧ ∀ i, i < b → 0 < cmpR t (L.getD i rk0) (L.getD b rk0) := by
  intro k
  induction k with
  | zero => rfl
  | succ k ih =>
    rw [leastO_succ]
    have hp := cmpR_pre t
    have refl : ∀ x, ¬ cmpR t x x < 0 := fun x q => by have := (hp.anti x x).1 q; omega
    cases e : leastO t L k with
    | none =>
      rw [e] at ih
      subst ih
      refine ⟨by omega, fun i hi => ?_, fun i hi => by omega⟩
      obtain rfl : i = 0 := by omega
      exact refl _
    | some b =>
      rw [e] at ih
      obtain ⟨h1, h2, h3⟩ := ih
      unfold lstep
      by_cases q : cmpR t (L.getD k rk0) (L.getD b rk0) < 0
      · dsimp only; rw [if_pos q]
        have key : ∀ i, i < k → 0 < cmpR t (L.getD i rk0) (L.getD k rk0) := fun i hi => by
          have := (hp.nonneg _ _).1 (h2 i hi)
          have := hp.lt_le q this
          exact (hp.anti _ _).1 this
        refine ⟨by omega, fun i hi => ?_, key⟩
        rcases Nat.lt_or_ge i k with r | r
        · have := key i r; omega
        · obtain rfl : i = k := by omega
          exact refl _
      · dsimp only; rw [if_neg q]
        refine ⟨by omega, fun i hi => ?_, h3⟩
        rcases Nat.lt_or_ge i k with r | r
        · exact h2 i r
        · obtain rfl : i = k := by omega
          exact q
set_option maxRecDepth 8000 in
set_option maxHeartbeats 1000000 in
theorem least_any (t : Int) (v : Value) (L : List Rk) (w : World) (h : RksAt w w.heap.size v L) :
    Calls Try.prog 19 #[.int .i64 t, v] w fun e w' => e = .returned (.int .i64 (leastF t L)) ∧ Below w.heap.size w w' := by
  have h63 := h.1
  have HR := Lib.hid h
  obtain ⟨a, c, rfl⟩ := rks_end h
  obtain ⟨N, hN⟩ : ∃ N, L.length = N := ⟨_, rfl⟩
  have HN := Lib.hid hN
  obtain ⟨F, hF⟩ : ∃ F, leastF t L = F := ⟨_, rfl⟩
  have HF := Lib.hid hF
  rw [hF]
  rw [hN] at HR h63 ⊢
  clear h hN hF
  go_enter Try.func19, Try.ntmps19
  go_wp2_with fail
  go_loopg [5, 10] N (fun g bv st wr => ∃ k : Nat, k + g = N ∧ st = .int .i64 (k : Int) ∧ bv = .int .i64 (bestV (leastO t L k)) ∧ ∃ x : Ext w, x.it = wr)
  case atStart => exact ⟨0, by omega, rfl, rfl, ext_of (Below.refl _ _)⟩
  case round =>
    obtain ⟨k, hk, rfl, rfl, x, rfl⟩ := hrel
    have hx := x.below
    by_cases hg0 : gk = 0
    · subst hg0
      obtain rfl : N = k := by omega
      have e : bestV (leastO t L N) = F := by rw [← HF.out]; unfold leastF; rw [HN.out]
      rw [e]
      clear hk
      go_wp2_with fail
      exact bodyPost_ret (v := .int .i64 F) (by simp (maxDischargeDepth := 9) [results, Try.results19, go_sem, *]) rfl ⟨rfl, by repeat (first | with_reducible exact Below.refl _ _ | with_reducible assumption | with_reducible refine Below.al ?_ _ | with_reducible refine Below.on ?_ _ | with_reducible refine Below.st ?_ (by first | assumption | (simp; done) | (simp; omega)) _ | with_reducible refine Below.drew ?_)⟩
    · have hkn : k < N := by omega
      have hkl : k < L.length := by rw [HN.out]; exact hkn
      have hkn' : (k : Int) < (N : Int) := by omega
      obtain ⟨b, o, rfl, hb, hc⟩ := rks_in HR.out (by omega)
      have CC := Lib.hid hc
      obtain ⟨p0, p1, p2, p3⟩ := hc k hkl
      have ek : L.getD k rk0 = L[k]'hkl := by simp [List.getD, List.getElem?_eq_getElem hkl]
      obtain ⟨X, hX⟩ : ∃ X, L[k]'hkl = X := ⟨_, rfl⟩
      rw [hX] at p0 p1 p2 p3 ek
      obtain ⟨⟨xn, xi, xs⟩, xq⟩ := X
      dsimp only at p0 p1 p2 p3
      have f0 := (hx.cell (p := ⟨b, o + k * 4, none⟩) hb).trans p0
      have f1 := (hx.cell (p := ⟨b, o + k * 4 + 1, none⟩) hb).trans p1
      have f2 := (hx.cell (p := ⟨b, o + k * 4 + 2, none⟩) hb).trans p2
      have f3 := (hx.cell (p := ⟨b, o + k * 4 + 3, none⟩) hb).trans p3
      have fz : b < x.it.heap.size := Nat.lt_of_lt_of_le hb hx.size
      have SP := leastO_spec t L k
      have ES := Lib.hid (leastO_succ t L k)
      have GZ := Lib.hid (And.intro hk hg0)
      cases hB : leastO t L k with
      | none =>
        rw [hB] at ES
        have E : Hid (bestV (leastO t L (k + 1)) = (k : Int)) := Lib.hid (by rw [ES.out]; rfl)
        clear hc SP hB p0 p1 p2 p3 hX hk hg0 ek
        clear hkl
        dsimp only [bestV]
        go_upto_region 5 with fail
        refine wp_region_ext (by kernel_rfl) (by kernel_rfl) ?_
        repeat (go_big_quiet_step ((fail)))
        refine wpQuiet_nil ?_
        rintro _ ⟨x2, rfl⟩
        go_wp2_with fail
        go_roundg (gk - 1)
        case measure => have := GZ.out; omega
        case rel => exact ⟨k + 1, by have := GZ.out; omega, by go_num, by rw [E.out], ⟨_, by exact (by repeat (first | with_reducible exact Below.refl _ _ | with_reducible assumption | with_reducible refine Below.al ?_ _ | with_reducible refine Below.on ?_ _ | with_reducible refine Below.st ?_ (by first | assumption | (simp; done) | (simp; omega)) _ | with_reducible refine Below.drew ?_))⟩, rfl⟩
      | some j =>
        rw [hB] at SP ES
        have jk := SP.1
        have hjl : j < L.length := by omega
        obtain ⟨q0, q1, q2, q3⟩ := hc j hjl
        have ej : L.getD j rk0 = L[j]'hjl := by simp [List.getD, List.getElem?_eq_getElem hjl]
        obtain ⟨Y, hY⟩ : ∃ Y, L[j]'hjl = Y := ⟨_, rfl⟩
        rw [hY] at q0 q1 q2 q3 ej
        obtain ⟨⟨yn, yi, ys⟩, yq⟩ := Y
        dsimp only at q0 q1 q2 q3
        have g0 := (hx.cell (p := ⟨b, o + j * 4, none⟩) hb).trans q0
        have g1 := (hx.cell (p := ⟨b, o + j * 4 + 1, none⟩) hb).trans q1
        have g2 := (hx.cell (p := ⟨b, o + j * 4 + 2, none⟩) hb).trans q2
        have g3 := (hx.cell (p := ⟨b, o + j * 4 + 3, none⟩) hb).trans q3
        obtain ⟨D, hD⟩ : ∃ D, cmpR t ⟨⟨xn, xi, xs⟩, xq⟩ ⟨⟨yn, yi, ys⟩, yq⟩ = D := ⟨_, rfl⟩
        have CM := Lib.hid (fun W => (by have z := bcompare_any t xn xi xs xq yn yi ys yq W; rw [hD] at z; exact z : Calls Try.prog 41 #[.int .i64 t, .agg #[.bool xn, .int .i64 xi, .string xs, .int .i64 xq], .agg #[.bool yn, .int .i64 yi, .string ys, .int .i64 yq]] W fun e w' => e = .returned (.int .i64 D) ∧ Below W.heap.size W w'))
        have E : Hid (bestV (leastO t L (k + 1)) = if D < 0 then (k : Int) else (j : Int)) := Lib.hid (by
          rw [ES.out]; unfold lstep; dsimp only; rw [ek, ej, hD]; split <;> rfl)
        have j0 : decide ((j : Int) < 0) = false := by simp
        have jn : (j : Int) < (N : Int) := by omega
        have jn' : j < N := by omega
        clear hc SP hB p0 p1 p2 p3 q0 q1 q2 q3 hX hY hk hg0 ek ej hD
        clear hkl hjl
        dsimp only [bestV]
        go_upto_region 5 with fail
        refine captureM ?_
        intro y ey
        have yb : Below w.heap.size w y := by rw [ey]; exact (by repeat (first | with_reducible exact Below.refl _ _ | with_reducible assumption | with_reducible refine Below.al ?_ _ | with_reducible refine Below.on ?_ _ | with_reducible refine Below.st ?_ (by first | assumption | (simp; done) | (simp; omega)) _ | with_reducible refine Below.drew ?_))
        have y0 : y.cell? ⟨x.it.heap.size, 0, none⟩ = some (.bool xn) := by rw [ey]; simp (maxDischargeDepth := 9) [go_sem, *]
        have y1 : y.cell? ⟨x.it.heap.size, 1, none⟩ = some (.int .i64 xi) := by rw [ey]; simp (maxDischargeDepth := 9) [go_sem, *]
        have y2 : y.cell? ⟨x.it.heap.size, 2, none⟩ = some (.string xs) := by rw [ey]; simp (maxDischargeDepth := 9) [go_sem, *]
        have y3 : y.cell? ⟨x.it.heap.size, 3, none⟩ = some (.int .i64 xq) := by rw [ey]; simp (maxDischargeDepth := 9) [go_sem, *]
        have yx : Below x.it.heap.size x.it y := by rw [ey]; exact (by repeat (first | with_reducible exact Below.refl _ _ | with_reducible assumption | with_reducible refine Below.al ?_ _ | with_reducible refine Below.on ?_ _ | with_reducible refine Below.st ?_ (by first | assumption | (simp; done) | (simp; omega)) _ | with_reducible refine Below.drew ?_))
        have yz : x.it.heap.size < y.heap.size := by rw [ey]; simp
        have h0 := (yx.cell (p := ⟨b, o + j * 4, none⟩) fz).trans g0
        have h1 := (yx.cell (p := ⟨b, o + j * 4 + 1, none⟩) fz).trans g1
        have h2 := (yx.cell (p := ⟨b, o + j * 4 + 2, none⟩) fz).trans g2
        have h3 := (yx.cell (p := ⟨b, o + j * 4 + 3, none⟩) fz).trans g3
        have hz : b < y.heap.size := Nat.lt_of_lt_of_le fz yx.size
        have YB := Lib.hid yb
        clear ey g0 g1 g2 g3 f0 f1 f2 f3 yx yb
        refine wp_region_ext (by kernel_rfl) (by kernel_rfl) ?_
        repeat (go_big_quiet_step (((go_at_call 41; exact Calls.ext (CM.out _)))))
        refine wpQuiet_nil ?_
        rintro _ ⟨x2, rfl⟩
        have yb := YB.out
        by_cases d : D < 0
        · rw [if_pos d] at E
          go_wp2_with fail
          go_roundg (gk - 1)
          case measure => have := GZ.out; omega
          case rel => exact ⟨k + 1, by have := GZ.out; omega, by go_num, by rw [E.out], ⟨_, by exact (by repeat (first | with_reducible exact Below.refl _ _ | with_reducible assumption | with_reducible refine Below.al ?_ _ | with_reducible refine Below.on ?_ _ | with_reducible refine Below.st ?_ (by first | assumption | (simp; done) | (simp; omega)) _ | with_reducible refine Below.drew ?_))⟩, rfl⟩
        · rw [if_neg d] at E
          go_wp2_with fail
          go_roundg (gk - 1)
          case measure => have := GZ.out; omega
          case rel => exact ⟨k + 1, by have := GZ.out; omega, by go_num, by rw [E.out], ⟨_, by exact (by repeat (first | with_reducible exact Below.refl _ _ | with_reducible assumption | with_reducible refine Below.al ?_ _ | with_reducible refine Below.on ?_ _ | with_reducible refine Below.st ?_ (by first | assumption | (simp; done) | (simp; omega)) _ | with_reducible refine Below.drew ?_))⟩, rfl⟩
set_option maxRecDepth 8000 in
set_option maxHeartbeats 1000000 in
theorem refLeast_any (t : Int) (v : Value) (L : List Rk) (w : World) (h : RksAt w w.heap.size v L) :
    Calls Try.prog 21 #[.int .i64 t, v] w fun e w' => e = .returned (.int .i64 (leastF t L)) ∧ Below w.heap.size w w' := by
  have h63 := h.1
  have HR := Lib.hid h
  obtain ⟨a, c, rfl⟩ := rks_end h
  obtain ⟨N, hN⟩ : ∃ N, L.length = N := ⟨_, rfl⟩
  have HN := Lib.hid hN
  obtain ⟨F, hF⟩ : ∃ F, leastF t L = F := ⟨_, rfl⟩
  have HF := Lib.hid hF
  rw [hF]
  rw [hN] at HR h63 ⊢
  clear h hN hF
  go_enter Try.func21, Try.ntmps21
  go_wp2_with fail
  go_loopg [5, 10] N (fun g bv st wr => ∃ k : Nat, k + g = N ∧ st = .int .i64 (k : Int) ∧ bv = .int .i64 (bestV (leastO t L k)) ∧ ∃ x : Ext w, x.it = wr)
  case atStart => exact ⟨0, by omega, rfl, rfl, ext_of (Below.refl _ _)⟩
  case round =>
    obtain ⟨k, hk, rfl, rfl, x, rfl⟩ := hrel
    have hx := x.below
    by_cases hg0 : gk = 0
    · subst hg0
      obtain rfl : N = k := by omega
      have e : bestV (leastO t L N) = F := by rw [← HF.out]; unfold leastF; rw [HN.out]
      rw [e]
      clear hk
      go_wp2_with fail
      exact bodyPost_ret (v := .int .i64 F) (by simp (maxDischargeDepth := 9) [results, Try.results21, go_sem, *]) rfl ⟨rfl, by repeat (first | with_reducible exact Below.refl _ _ | with_reducible assumption | with_reducible refine Below.al ?_ _ | with_reducible refine Below.on ?_ _ | with_reducible refine Below.st ?_ (by first | assumption | (simp; done) | (simp; omega)) _ | with_reducible refine Below.drew ?_)⟩
    · have hkn : k < N := by omega
      have hkl : k < L.length := by rw [HN.out]; exact hkn
      have hkn' : (k : Int) < (N : Int) := by omega
      obtain ⟨b, o, rfl, hb, hc⟩ := rks_in HR.out (by omega)
      have CC := Lib.hid hc
      obtain ⟨p0, p1, p2, p3⟩ := hc k hkl
      have ek : L.getD k rk0 = L[k]'hkl := by simp [List.getD, List.getElem?_eq_getElem hkl]
      obtain ⟨X, hX⟩ : ∃ X, L[k]'hkl = X := ⟨_, rfl⟩
      rw [hX] at p0 p1 p2 p3 ek
      obtain ⟨⟨xn, xi, xs⟩, xq⟩ := X
      dsimp only at p0 p1 p2 p3
      have f0 := (hx.cell (p := ⟨b, o + k * 4, none⟩) hb).trans p0
      have f1 := (hx.cell (p := ⟨b, o + k * 4 + 1, none⟩) hb).trans p1
      have f2 := (hx.cell (p := ⟨b, o + k * 4 + 2, none⟩) hb).trans p2
      have f3 := (hx.cell (p := ⟨b, o + k * 4 + 3, none⟩) hb).trans p3
      have fz : b < x.it.heap.size := Nat.lt_of_lt_of_le hb hx.size
      have SP := leastO_spec t L k
      have ES := Lib.hid (leastO_succ t L k)
      have GZ := Lib.hid (And.intro hk hg0)
      cases hB : leastO t L k with
      | none =>
        rw [hB] at ES
        have E : Hid (bestV (leastO t L (k + 1)) = (k : Int)) := Lib.hid (by rw [ES.out]; rfl)
        clear hc SP hB p0 p1 p2 p3 hX hk hg0 ek
        clear hkl
        dsimp only [bestV]
        go_upto_region 5 with fail
        refine wp_region_ext (by kernel_rfl) (by kernel_rfl) ?_
        repeat (go_big_quiet_step ((fail)))
        refine wpQuiet_nil ?_
        rintro _ ⟨x2, rfl⟩
        go_wp2_with fail
        go_roundg (gk - 1)
        case measure => have := GZ.out; omega
        case rel => exact ⟨k + 1, by have := GZ.out; omega, by go_num, by rw [E.out], ⟨_, by exact (by repeat (first | with_reducible exact Below.refl _ _ | with_reducible assumption | with_reducible refine Below.al ?_ _ | with_reducible refine Below.on ?_ _ | with_reducible refine Below.st ?_ (by first | assumption | (simp; done) | (simp; omega)) _ | with_reducible refine Below.drew ?_))⟩, rfl⟩
      | some j =>
        rw [hB] at SP ES
        have jk := SP.1
        have hjl : j < L.length := by omega
        obtain ⟨q0, q1, q2, q3⟩ := hc j hjl
        have ej : L.getD j rk0 = L[j]'hjl := by simp [List.getD, List.getElem?_eq_getElem hjl]
        obtain ⟨Y, hY⟩ : ∃ Y, L[j]'hjl = Y := ⟨_, rfl⟩
        rw [hY] at q0 q1 q2 q3 ej
        obtain ⟨⟨yn, yi, ys⟩, yq⟩ := Y
        dsimp only at q0 q1 q2 q3
        have g0 := (hx.cell (p := ⟨b, o + j * 4, none⟩) hb).trans q0
        have g1 := (hx.cell (p := ⟨b, o + j * 4 + 1, none⟩) hb).trans q1
        have g2 := (hx.cell (p := ⟨b, o + j * 4 + 2, none⟩) hb).trans q2
        have g3 := (hx.cell (p := ⟨b, o + j * 4 + 3, none⟩) hb).trans q3
        obtain ⟨D, hD⟩ : ∃ D, cmpR t ⟨⟨xn, xi, xs⟩, xq⟩ ⟨⟨yn, yi, ys⟩, yq⟩ = D := ⟨_, rfl⟩
        have CM := Lib.hid (fun W => (by have z := refCompareR_any t xn xi xs xq yn yi ys yq W; rw [hD] at z; exact z : Calls Try.prog 20 #[.int .i64 t, .agg #[.bool xn, .int .i64 xi, .string xs, .int .i64 xq], .agg #[.bool yn, .int .i64 yi, .string ys, .int .i64 yq]] W fun e w' => e = .returned (.int .i64 D) ∧ Below W.heap.size W w'))
        have E : Hid (bestV (leastO t L (k + 1)) = if D < 0 then (k : Int) else (j : Int)) := Lib.hid (by
          rw [ES.out]; unfold lstep; dsimp only; rw [ek, ej, hD]; split <;> rfl)
        have j0 : decide ((j : Int) < 0) = false := by simp
        have jn : (j : Int) < (N : Int) := by omega
        have jn' : j < N := by omega
        clear hc SP hB p0 p1 p2 p3 q0 q1 q2 q3 hX hY hk hg0 ek ej hD
        clear hkl hjl
        dsimp only [bestV]
        go_upto_region 5 with fail
        refine captureM ?_
        intro y ey
        have yb : Below w.heap.size w y := by rw [ey]; exact (by repeat (first | with_reducible exact Below.refl _ _ | with_reducible assumption | with_reducible refine Below.al ?_ _ | with_reducible refine Below.on ?_ _ | with_reducible refine Below.st ?_ (by first | assumption | (simp; done) | (simp; omega)) _ | with_reducible refine Below.drew ?_))
        have y0 : y.cell? ⟨x.it.heap.size, 0, none⟩ = some (.bool xn) := by rw [ey]; simp (maxDischargeDepth := 9) [go_sem, *]
        have y1 : y.cell? ⟨x.it.heap.size, 1, none⟩ = some (.int .i64 xi) := by rw [ey]; simp (maxDischargeDepth := 9) [go_sem, *]
        have y2 : y.cell? ⟨x.it.heap.size, 2, none⟩ = some (.string xs) := by rw [ey]; simp (maxDischargeDepth := 9) [go_sem, *]
        have y3 : y.cell? ⟨x.it.heap.size, 3, none⟩ = some (.int .i64 xq) := by rw [ey]; simp (maxDischargeDepth := 9) [go_sem, *]
        have yx : Below x.it.heap.size x.it y := by rw [ey]; exact (by repeat (first | with_reducible exact Below.refl _ _ | with_reducible assumption | with_reducible refine Below.al ?_ _ | with_reducible refine Below.on ?_ _ | with_reducible refine Below.st ?_ (by first | assumption | (simp; done) | (simp; omega)) _ | with_reducible refine Below.drew ?_))
        have yz : x.it.heap.size < y.heap.size := by rw [ey]; simp
        have h0 := (yx.cell (p := ⟨b, o + j * 4, none⟩) fz).trans g0
        have h1 := (yx.cell (p := ⟨b, o + j * 4 + 1, none⟩) fz).trans g1
        have h2 := (yx.cell (p := ⟨b, o + j * 4 + 2, none⟩) fz).trans g2
        have h3 := (yx.cell (p := ⟨b, o + j * 4 + 3, none⟩) fz).trans g3
        have hz : b < y.heap.size := Nat.lt_of_lt_of_le fz yx.size
        have YB := Lib.hid yb
        clear ey g0 g1 g2 g3 f0 f1 f2 f3 yx yb
        refine wp_region_ext (by kernel_rfl) (by kernel_rfl) ?_
        repeat (go_big_quiet_step (((go_at_call 20; exact Calls.ext (CM.out _)))))
        refine wpQuiet_nil ?_
        rintro _ ⟨x2, rfl⟩
        have yb := YB.out
        by_cases d : D < 0
        · rw [if_pos d] at E
          go_wp2_with fail
          go_roundg (gk - 1)
          case measure => have := GZ.out; omega
          case rel => exact ⟨k + 1, by have := GZ.out; omega, by go_num, by rw [E.out], ⟨_, by exact (by repeat (first | with_reducible exact Below.refl _ _ | with_reducible assumption | with_reducible refine Below.al ?_ _ | with_reducible refine Below.on ?_ _ | with_reducible refine Below.st ?_ (by first | assumption | (simp; done) | (simp; omega)) _ | with_reducible refine Below.drew ?_))⟩, rfl⟩
        · rw [if_neg d] at E
          go_wp2_with fail
          go_roundg (gk - 1)
          case measure => have := GZ.out; omega
          case rel => exact ⟨k + 1, by have := GZ.out; omega, by go_num, by rw [E.out], ⟨_, by exact (by repeat (first | with_reducible exact Below.refl _ _ | with_reducible assumption | with_reducible refine Below.al ?_ _ | with_reducible refine Below.on ?_ _ | with_reducible refine Below.st ?_ (by first | assumption | (simp; done) | (simp; omega)) _ | with_reducible refine Below.drew ?_))⟩, rfl⟩
end Go.Proofs.Ytgooffpmiilicaa
namespace Go.Proofs.Ytgooffpmiilicaa
open Go.RowKit Srt
def aLs : List (List Rc) := [listF 1 [4], listF 2 [3]]
def aOut : List Rc := [⟨2, [⟨false, 3, ⟨#[]⟩⟩]⟩, ⟨1, [⟨false, 4, ⟨#[]⟩⟩]⟩]
theorem a_sorted : sortB [aCol] 0 aLs = true := by
  unfold sortB aLs
  simp only [List.all_cons, List.all_nil, Bool.and_true, Bool.and_eq_true]
  constructor <;> (unfold sortedF validF; rw [a_schema]; simp [listF, badR, rowE, rowEs, aCol, vchk, permF, a_tl0, ascF])
theorem a_merge : mergeE [aCol] 0 aLs = 0 ∧ mergeR [aCol] 0 aLs = aOut := by
  obtain ⟨h1, h2⟩ := mergeE_ok (Ls := aLs) a_schema (by simp [aLs]) (by simp [longB, aLs, listF]) a_sorted
  refine ⟨h1, ?_⟩
  rw [h2]
  simp [aLs, aOut, listF, srt, srtR, insR, recD, rankF, cmpR, cmpV, cmpI, orF, tyK, aCol]
theorem rks_nil (w : World) : RksAt w w.heap.size (.slice none 0 0) [] := ⟨by simp, .inl ⟨rfl, none, 0, rfl⟩⟩
/-- Two slices of records, side by side. -/
theorem parts_two {w : World} {g : Nat} {v0 v1 : Value} {l0 l1 : List Rc} (hg : g < w.heap.size) (c0 : w.cell? ⟨g, 0, none⟩ = some v0) (c1 : w.cell? ⟨g, 1, none⟩ = some v1) (h0 : RecsAt w w.heap.size v0 l0) (h1 : RecsAt w w.heap.size v1 l1) : PartsAt w w.heap.size (.slice (some ⟨g, 0, none⟩) 2 2) [l0, l1] := by
  refine ⟨by simp, .inr ⟨g, 0, 2, rfl, by simp, hg, fun j hj => ?_⟩⟩
  rcases j with _ | _ | j
  · exact ⟨v0, c0, h0⟩
  · exact ⟨v1, c1, h1⟩
  · simp at hj; omega
def LitPost (w : World) (rs : List Rc) (n : Nat) (e : Ending) (w' : World) : Prop := ∃ a c, e = .returned (.slice a n c) ∧ RecsAt w' w'.heap.size (.slice a n c) rs ∧ Below w.heap.size w w'
theorem isI_small {z : Int} (h0 : -1000 ≤ z) (h1 : z ≤ 1000) : isI z := by unfold isI; omega
theorem list_lit (seq : Int) (zs : List Int) (T : TypeId) (W : World) (h0 : 0 ≤ seq) (h1 : seq ≤ 1000) (hz : zs.length ≤ 100) (hi : ∀ z ∈ zs, -1000 ≤ z ∧ z ≤ 1000) (hn : 0 < zs.length) (cs : Array Value) (hcs : cs = (zs.map (Value.int .i64 ·)).toArray) :
    Calls Try.prog 12 #[.int .i64 seq, .slice (some ⟨W.heap.size, 0, none⟩) zs.length zs.length] (W.alloc (.cells cs T)) (LitPost (W.alloc (.cells cs T)) (listF seq zs) zs.length) := by
  subst hcs
  refine Calls.mono (list_any seq _ zs _ ⟨fun z hz => isI_small (hi z hz).1 (hi z hz).2, by omega, .inr ⟨W.heap.size, 0, zs.length, rfl, by simp, fun j hj => ?_⟩⟩ h0 h1 (by omega)) ?_
  · rw [cell_of_row _ W.heap.size (0 + j) _ T (0, 0) (heap_alloc_new W _)]
    simp [List.getD, List.getElem?_eq_getElem hj]
  · rintro e w' ⟨v, rfl, hr, hb⟩
    obtain ⟨a, c, rfl⟩ := recs_end hr
    rw [listF_len] at hr ⊢
    exact ⟨a, c, rfl, hr, hb⟩
set_option maxRecDepth 8000 in
set_option maxHeartbeats 1000000 in
theorem awake29 (w : World) : Calls Try.prog 17 #[] w fun e w' => e = .returned (.bool true) ∧ Below w.heap.size w w' := by
  have L1 : Hid (∀ W : World, Calls Try.prog 12 #[.int .i64 1, .slice (some ⟨W.heap.size, 0, none⟩) 1 1] (W.alloc (.cells #[.int .i64 4] 2)) (LitPost (W.alloc (.cells #[.int .i64 4] 2)) (listF 1 [4]) 1)) := Lib.hid (fun W => list_lit 1 [4] 2 W (by decide) (by decide) (by decide) (by simp) (by decide) _ rfl)
  have L2 : Hid (∀ W : World, Calls Try.prog 12 #[.int .i64 2, .slice (some ⟨W.heap.size, 0, none⟩) 1 1] (W.alloc (.cells #[.int .i64 3] 2)) (LitPost (W.alloc (.cells #[.int .i64 3] 2)) (listF 2 [3]) 1)) := Lib.hid (fun W => list_lit 2 [3] 2 W (by decide) (by decide) (by decide) (by simp) (by decide) _ rfl)
  have LE : Hid (∀ W : World, Calls Try.prog 19 #[.int .i64 1, .slice none 0 0] W fun e w' => e = .returned (.int .i64 (-1)) ∧ Below W.heap.size W w') := Lib.hid (fun W => least_any 1 _ [] W (rks_nil W))
  have MG : Hid (∀ (W : World) (cv : Value) (g : Nat) (v0 v1 : Value), ColsAt W W.heap.size cv [aCol] → g < W.heap.size → W.cell? ⟨g, 0, none⟩ = some v0 → W.cell? ⟨g, 1, none⟩ = some v1 → RecsAt W W.heap.size v0 (listF 1 [4]) → RecsAt W W.heap.size v1 (listF 2 [3]) → Calls Try.prog 10 #[.agg #[cv, .int .i64 0], .slice (some ⟨g, 0, none⟩) 2 2] W fun e w' => ∃ b o c, e = .returned (.tuple #[.slice (some ⟨b, o, none⟩) 2 c, .int .i64 0]) ∧ b < w'.heap.size ∧ w'.cell? ⟨b, o, none⟩ = some (.int .i64 2) ∧ Below W.heap.size W w') := Lib.hid (fun W cv g v0 v1 hc hg c0 c1 h0 h1 => by
    refine Calls.mono (merge_any cv [aCol] 0 _ aLs W hc (parts_two hg c0 c1 h0 h1)) ?_
    rintro e w' ⟨v, rfl, hr, hb⟩
    rw [a_merge.1]
    rw [a_merge.2] at hr
    obtain ⟨a, c, rfl⟩ := recs_end hr
    obtain ⟨b, o, rfl, _, hb2, k0, _⟩ := recs_in hr (i := 0) (by simp [aOut])
    exact ⟨b, o, c, rfl, hb2, by simpa [aOut] using k0, hb⟩)
  go_enter Try.func17, Try.ntmps17
  go_upto_region 2 with (first | (go_at_call 11; refine Calls.mono (one_any _) ?_; rintro e w1 ⟨g1, rfl, hc1, hb1⟩; have HC1 := Lib.hid hc1; clear hc1; obtain ⟨x1, rfl⟩ := Ext.of hb1) | (go_at_call 12; (with_reducible refine Calls.mono (L1.out _) ?_); rintro e w2 ⟨a2, c2, rfl, hr2, hb2⟩; have HR2 := Lib.hid hr2; clear hr2; obtain ⟨x2, rfl⟩ := Ext.of hb2) | (go_at_call 12; (with_reducible refine Calls.mono (L2.out _) ?_); rintro e w3 ⟨a3, c3, rfl, hr3, hb3⟩; have HR3 := Lib.hid hr3; clear hr3; obtain ⟨x3, rfl⟩ := Ext.of hb3) | (go_at_call 10; refine Calls.mono (MG.out _ _ _ _ _ (HC1.out.mono (by repeat (first | with_reducible exact Below.refl _ _ | with_reducible assumption | with_reducible refine Below.al ?_ _ | with_reducible refine Below.on ?_ _ | with_reducible refine Below.st ?_ (by first | assumption | (simp; done) | (simp; omega)) _ | with_reducible refine Below.drew ?_)) (by have := x2.below.size; have := x3.below.size; simp at *; omega)) (by simp) (by simp [go_sem]) (by simp [go_sem]) (HR2.out.mono (by repeat (first | with_reducible exact Below.refl _ _ | with_reducible assumption | with_reducible refine Below.al ?_ _ | with_reducible refine Below.on ?_ _ | with_reducible refine Below.st ?_ (by first | assumption | (simp; done) | (simp; omega)) _ | with_reducible refine Below.drew ?_)) (by have := x3.below.size; simp at *; omega)) (HR3.out.mono (by repeat (first | with_reducible exact Below.refl _ _ | with_reducible assumption | with_reducible refine Below.al ?_ _ | with_reducible refine Below.on ?_ _ | with_reducible refine Below.st ?_ (by first | assumption | (simp; done) | (simp; omega)) _ | with_reducible refine Below.drew ?_)) (by simp))) ?_; rintro e w4 ⟨b4, o4, c4, rfl, hz4, k4, hb4⟩; have K4 := Lib.hid k4; have Z4 := Lib.hid hz4; clear k4 hz4; obtain ⟨x4, rfl⟩ := Ext.of hb4))
  have k4 := K4.out
  have z4 := Z4.out
  go_wp2_with (go_at_call 19; refine Calls.mono (LE.out _) ?_; rintro e w5 ⟨rfl, hb5⟩; obtain ⟨x5, rfl⟩ := Ext.of hb5)
  exact bodyPost_ret (v := .bool true) (by simp [results, Try.results17, go_sem, *]) rfl (⟨rfl, by repeat (first | with_reducible exact Below.refl _ _ | with_reducible assumption | with_reducible refine Below.al ?_ _ | with_reducible refine Below.on ?_ _ | with_reducible refine Below.st ?_ (by first | assumption | (simp; done) | (simp; omega)) _ | with_reducible refine Below.drew ?_)⟩)
end Go.Proofs.Ytgooffpmiilicaa
