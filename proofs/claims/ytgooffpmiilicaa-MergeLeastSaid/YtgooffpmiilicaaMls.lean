/-
  CHAPTER 29: one, list, Least and the reference's. Conditions: the keys and the ranks lie in memory as 'IntsAt', 'RksAt' say.
-/
import Derived.Test.YtgooffpmiilicaaMrg
import Derived.Test.YtgooffpmiilicaaOps
set_option linter.unusedVariables false
set_option linter.unusedSimpArgs false
namespace Go.Proofs.Ytgooffpmiilicaa
open Go.RowKit Srt
def aCol : Col := ⟨⟨#[97]⟩, 1, 0, false⟩
theorem a_tl0 : (⟨#[]⟩ : ByteArray).toList = [] := by rw [ByteArray.toList_eq]
theorem a_tl : (⟨#[97]⟩ : ByteArray).toList = [97] := by rw [ByteArray.toList_eq]
theorem a_name : nameF [97] = true := by decide
theorem a_schema : schemaF [aCol] 0 = 0 := by
  simp [schemaF, colsE, colE, aCol, a_tl, a_name]
def OnePost (w : World) (e : Ending) (w' : World) : Prop := ∃ g, e = .returned (.agg #[.slice (some ⟨g, 0, none⟩) 1 1, .int .i64 0]) ∧ ColsAt w' w'.heap.size (.slice (some ⟨g, 0, none⟩) 1 1) [aCol] ∧ Below w.heap.size w w'
set_option maxRecDepth 8000 in
theorem one_any (w : World) : Calls Try.prog 11 #[] w (OnePost w) := by
  go_enter Try.func11, Try.ntmps11
  go_wp2
  refine bodyPost_ret (v := .agg #[.slice (some ⟨w.heap.size + 1, 0, none⟩) 1 1, .int .i64 0]) (by simp [results, Try.results11, go_sem, *]) rfl ⟨_, rfl, ⟨by simp, .inr ⟨_, 0, 1, rfl, by simp, by simp, fun j hj => ?_⟩⟩, by repeat (first | with_reducible exact Below.refl _ _ | with_reducible assumption | with_reducible refine Below.al ?_ _ | with_reducible refine Below.on ?_ _ | with_reducible refine Below.st ?_ (by first | assumption | (simp; done) | (simp; omega)) _ | with_reducible refine Below.drew ?_)⟩
  obtain rfl : j = 0 := by (simp at hj; omega)
  exact ⟨by simp [go_sem, aCol], by simp [go_sem, aCol], by simp [go_sem, aCol], by simp [go_sem, aCol]⟩
/-- Records with the given keys and ascending numbers. -/
def listF (seq : Int) : List Int → List Rc
  | [] => []
  | z :: r => ⟨seq, [⟨false, z, ⟨#[]⟩⟩]⟩ :: listF (seq + 1) r
theorem listF_len : ∀ (zs : List Int) (seq : Int), (listF seq zs).length = zs.length
  | [], _ => rfl
  | z :: r, seq => by show (listF (seq + 1) r).length + 1 = _; rw [listF_len r]; rfl
theorem listF_snoc : ∀ (zs : List Int) (seq z : Int), listF seq (zs ++ [z]) = listF seq zs ++ [⟨seq + zs.length, [⟨false, z, ⟨#[]⟩⟩]⟩]
  | [], seq, z => by simp [listF]
  | y :: r, seq, z => by
    show ⟨seq, _⟩ :: listF (seq + 1) (r ++ [z]) = _
    rw [listF_snoc r]
    simp only [listF, List.cons_append, List.length_cons]
    congr 4
    omega
theorem listF_take {zs : List Int} {k : Nat} (hk : k < zs.length) (seq : Int) : listF seq (zs.take (k + 1)) = listF seq (zs.take k) ++ [⟨seq + k, [⟨false, zs[k]'hk, ⟨#[]⟩⟩]⟩] := by
  rw [List.take_succ_eq_append_getElem hk, listF_snoc, List.length_take, Nat.min_eq_left (by omega)]
def ListPost (w : World) (rs : List Rc) (e : Ending) (w' : World) : Prop := ∃ v, e = .returned v ∧ RecsAt w' w'.heap.size v rs ∧ Below w.heap.size w w'
set_option maxRecDepth 8000 in
set_option maxHeartbeats 1000000 in
theorem list_own (seq : Int) (lv : Value) (zs : List Int) (w : World) (h : IntsAt w w.heap.size lv zs) (h0 : 0 ≤ seq) (h1 : seq ≤ 1000) (hz : zs.length ≤ 100000) :
    Calls Try.prog 12 #[.int .i64 seq, lv] w (OwnPost w (listF seq zs)) := by
  obtain ⟨i0, hi, hz0, hz1, hz2⟩ := info_parts infoRec
  have HI := Lib.hid h
  obtain ⟨za, zc, rfl⟩ := ints_end h
  obtain ⟨N, hN⟩ : ∃ N, zs.length = N := ⟨_, rfl⟩
  have HN := Lib.hid hN
  rw [hN] at HI hz ⊢
  clear h hN
  go_enter Try.func12, Try.ntmps12
  go_wp2_with fail
  go_loopg [5, 10] N (fun g ov st wr => ∃ (k : Nat) (ps : List (Int × Value)), k + g = N ∧ st = .int .i64 (k : Int) ∧ OwnMem w wr ov ps (listF seq (zs.take k)))
  case atStart => exact ⟨0, [], by omega, rfl, Below.refl _ _, World.ownsRow_nil _ _ _ _, by rw [List.take_zero]; exact ⟨rfl, fun j hj => absurd hj (by simp)⟩⟩
  case round =>
    obtain ⟨k, ps, hk, rfl, M⟩ := hrel
    have MH := Lib.hid M
    have PL : ps.length = k := by rw [M.inn.1, listF_len, List.length_take, HN.out]; omega
    obtain ⟨va, vc, ev⟩ := own_form M.own
    rw [PL] at ev
    subst ev
    have hx := M.below
    have PH := Lib.hid PL
    clear M PL
    by_cases hg0 : gk = 0
    · subst hg0
      obtain rfl : N = k := by omega
      clear hk
      go_wp2_with fail
      have e : zs.take N = zs := List.take_of_length_le (by rw [HN.out]; exact Nat.le_refl _)
      have MO := MH.out
      rw [e] at MO
      refine bodyPost_ret (v := .slice va N vc) ?_ rfl ⟨_, ps, rfl, MO⟩
      simp (maxDischargeDepth := 9) [results, Try.results12, go_sem, *]
    · have hkn : k < N := by omega
      have hkl : k < zs.length := by rw [HN.out]; exact hkn
      have hkn' : (k : Int) < (N : Int) := by omega
      obtain ⟨zb, zo, zc', ev2, hzb, cz⟩ := ints_in HI.out hkl
      injection ev2 with ev2 ev4 ev3
      subst ev2
      have TS := Lib.hid (listF_take hkl seq)
      obtain ⟨z, hz'⟩ : ∃ z, zs[k]'hkl = z := ⟨_, rfl⟩
      have c0 := cz k hkl
      have eg : zs.getD k 0 = zs[k]'hkl := by simp [List.getD, List.getElem?_eq_getElem hkl]
      rw [eg, hz'] at c0
      have HZ : Hid (listF seq (zs.take (k + 1)) = listF seq (zs.take k) ++ [⟨seq + k, [⟨false, z, ⟨#[]⟩⟩]⟩]) := Lib.hid (by rw [TS.out, hz'])
      have f0 := (hx.cell (p := ⟨zb, zo + k, none⟩) hzb).trans c0
      have fz : zb < wr.heap.size := Nat.lt_of_lt_of_le hzb hx.size
      have GZ := Lib.hid (And.intro hk hg0)
      have k1 : (k : Int) ≤ 100000 := by omega
      have zx := hx.size
      clear c0 cz ev3 ev4 eg hk hg0 TS hz' hx
      have OWN2 : Hid (((wr.alloc (.cells #[.bool false, .int .i64 z, .string ⟨#[]⟩] 37)).alloc (.cells #[.int .i64 (seq + (k : Int)), .slice (some ⟨wr.heap.size, 0, none⟩) 1 1] 35)).ownsRow w.heap.size 35 2 (.slice va k vc) k (ps.flatMap rcC)) := Lib.hid (by have := MH.out.own; rw [PH.out] at this; exact (this.alloc _).alloc _)
      have NEWS : Hid (∀ (j : Nat) (u : Value), [Value.int .i64 (seq + (k : Int)), .slice (some ⟨wr.heap.size, 0, none⟩) 1 1][j]? = some u → ((wr.alloc (.cells #[.bool false, .int .i64 z, .string ⟨#[]⟩] 37)).alloc (.cells #[.int .i64 (seq + (k : Int)), .slice (some ⟨wr.heap.size, 0, none⟩) 1 1] 35)).cell? ((⟨wr.heap.size + 1, 0, none⟩ : Addr).add j) = some u) := Lib.hid (by
        have := World.news_of_block (heap_alloc_new (wr.alloc (.cells #[.bool false, .int .i64 z, .string ⟨#[]⟩] 37)) (.cells #[.int .i64 (seq + (k : Int)), .slice (some ⟨wr.heap.size, 0, none⟩) 1 1] 35))
        rw [World.size_alloc] at this
        exact this)
      have BW : Hid (Below wr.heap.size wr ((wr.alloc (.cells #[.bool false, .int .i64 z, .string ⟨#[]⟩] 37)).alloc (.cells #[.int .i64 (seq + (k : Int)), .slice (some ⟨wr.heap.size, 0, none⟩) 1 1] 35))) := Lib.hid (by exact (by repeat (first | with_reducible exact Below.refl _ _ | with_reducible assumption | with_reducible refine Below.al ?_ _ | with_reducible refine Below.on ?_ _ | with_reducible refine Below.st ?_ (by first | assumption | (simp; done) | (simp; omega)) _ | with_reducible refine Below.drew ?_)))
      have VW : Hid (ValsAt ((wr.alloc (.cells #[.bool false, .int .i64 z, .string ⟨#[]⟩] 37)).alloc (.cells #[.int .i64 (seq + (k : Int)), .slice (some ⟨wr.heap.size, 0, none⟩) 1 1] 35)) ((wr.alloc (.cells #[.bool false, .int .i64 z, .string ⟨#[]⟩] 37)).alloc (.cells #[.int .i64 (seq + (k : Int)), .slice (some ⟨wr.heap.size, 0, none⟩) 1 1] 35)).heap.size (.slice (some ⟨wr.heap.size, 0, none⟩) 1 1) [⟨false, z, ⟨#[]⟩⟩]) := Lib.hid ⟨by simp, .inr ⟨wr.heap.size, 0, 1, rfl, by simp, by simp; omega, fun j hj => by
        obtain rfl : j = 0 := by (simp at hj; omega)
        exact ⟨by simp [go_sem], by simp [go_sem], by simp [go_sem]⟩⟩⟩
      have FIN : Hid (∀ gb cap w7, w7.ownsRow w.heap.size 35 2 (.slice (some ⟨gb, 0, none⟩) (k + 1) cap) (k + 1) (ps.flatMap rcC ++ [.int .i64 (seq + (k : Int)), .slice (some ⟨wr.heap.size, 0, none⟩) 1 1]) → ((wr.alloc (.cells #[.bool false, .int .i64 z, .string ⟨#[]⟩] 37)).alloc (.cells #[.int .i64 (seq + (k : Int)), .slice (some ⟨wr.heap.size, 0, none⟩) 1 1] 35)).grownBy w7 (Value.slice va k vc).ownBlock → ((Value.slice va k vc).ownBlock = some gb ∨ gb = wr.heap.size + 1 + 1) → OwnMem w w7 (.slice (some ⟨gb, 0, none⟩) (k + 1) cap) (ps ++ [(seq + (k : Int), .slice (some ⟨wr.heap.size, 0, none⟩) 1 1)]) (listF seq (zs.take (k + 1)))) := Lib.hid (fun gb cap w7 hown hgrow hat => by
        rw [HZ.out]
        refine (MH.out.on BW.out).step (lv := .slice (some ⟨wr.heap.size, 0, none⟩) 1 1) VW.out (fun q hq => ?_) hgrow (by rw [PH.out]; exact hown) (hat.imp (fun q => q.trans rfl) (fun q => by rw [q]; simp [Value.ownBlock]))
        have e : wr.heap.size = q := by injection hq
        exact ⟨by omega, by simp; omega, fun e2 => by have := (MH.out.own.lt q (by rw [PH.out] at *; exact e2)).2; omega⟩)
      go_wp2_with (at_builtin; go_loud (refine wpList_append_lies _ rfl _ _ 22 rfl w.heap.size 35 i0 _ 2 32 Try.underlying22 hi hz0 hz1 hz2 rfl (by decide) (.slice va k vc) k (ps.flatMap rcC) rfl OWN2.out ⟨wr.heap.size + 1, 0, none⟩ 1 1 [.int .i64 (seq + (k : Int)), .slice (some ⟨wr.heap.size, 0, none⟩) 1 1] rfl rfl NEWS.out (by simp [Value.oneCell']) (by omega) (by unfold maxLen; omega) (by omega) (by simp; omega) (wr.heap.size + 1 + 1) (by simp) ?_); intro gb cap w7 hown hgrow hat hlt7; have MS := Lib.hid (FIN.out gb cap w7 hown hgrow hat); clear hown hgrow hat hlt7)
      go_roundg (gk - 1)
      case measure => have := GZ.out.2; omega
      case rel => exact ⟨k + 1, ps ++ [(seq + (k : Int), .slice (some ⟨wr.heap.size, 0, none⟩) 1 1)], by have := GZ.out; omega, by go_num, MS.out⟩
theorem list_any (seq : Int) (lv : Value) (zs : List Int) (w : World) (h : IntsAt w w.heap.size lv zs) (h0 : 0 ≤ seq) (h1 : seq ≤ 1000) (hz : zs.length ≤ 100000) :
    Calls Try.prog 12 #[.int .i64 seq, lv] w (ListPost w (listF seq zs)) := by
  refine Calls.mono (list_own seq lv zs w h h0 h1 hz) ?_
  rintro e w' ⟨v, ps, rfl, M⟩
  exact ⟨v, rfl, inn_recs (by rw [listF_len]; omega) M.inn M.own, M.below⟩
/-- What the call has made is read in any world that keeps the call's new blocks. -/
theorem OwnMem.far {w wr W : World} {v : Value} {ps : List (Int × Value)} {rs : List Rc} (h : OwnMem w wr v ps rs) (hl : rs.length ≤ 9223372036854775807) (hk : ∀ k, w.heap.size ≤ k → k < wr.heap.size → W.heap[k]? = wr.heap[k]?) (hs : wr.heap.size ≤ W.heap.size) : RecsAt W W.heap.size v rs := by
  refine inn_recs (B0 := w.heap.size) (base := w.heap.size) (T := 35) (ps := ps) hl ⟨h.inn.1, fun j hj hj' => ?_⟩ ?_
  · obtain ⟨a1, a2, a3⟩ := h.inn.2 j hj hj'
    exact ⟨a1, (a2.keep fun k hb e => hk k (a3 k e).1 hb).up hs, fun k e => ⟨(a3 k e).1, Nat.lt_of_lt_of_le (a3 k e).2.1 hs, (a3 k e).2.2⟩⟩
  · exact own_keep h.own fun k e => hk k (h.own.lt k e).1 (h.own.lt k e).2
end Go.Proofs.Ytgooffpmiilicaa
