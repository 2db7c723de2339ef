/-
  THE MAKERS: keep.row: a valid row. Conditions: the source lies in block sb, the columns in blocks below it.
-/
import Derived.Test.YtkblkjfejaflkaaMk2
import Derived.Test.YtkblkjfejaflkaaVok
import Derived.Test.YtkblkjfejaflkaaInt3
set_option linter.unusedVariables false
set_option linter.unusedSimpArgs false
namespace Go.Proofs.Ytkblkjfejaflkaa
open Go.RowKit
theorem infoVal : (Try.prog.info? 33).map (fun i => (i.zero, i.size, i.bytes)) = some (some (.agg #[.bool false, .int .i64 0, .string ⟨#[]⟩]), 3, 32) := by kernel_rfl
/-- The first values of a row fit their columns. -/
def RowPre (cs : List Col) (vs : List Val) : Prop := ∀ j (h : j < vs.length) (h' : j < cs.length), vchk (cs[j]'(h')).ty (cs[j]'(h')).nul (vs[j]'h).null (vs[j]'h).n (vs[j]'h).s = 0
theorem RowPre.snoc {cs : List Col} {vs : List Val} {k : Nat} (h : RowPre cs vs) (hk : vs.length = k) (hkl : k < cs.length) {v : Val} (hv : vchk (cs[k]'hkl).ty (cs[k]'hkl).nul v.null v.n v.s = 0) : RowPre cs (vs ++ [v]) := by
  intro j hj hj'
  rcases Nat.lt_or_ge j vs.length with q | q
  · rw [List.getElem_append_left q]; exact h j q hj'
  · obtain rfl : j = k := by simp at hj; omega
    subst hk
    simpa using hv
set_option maxRecDepth 8000 in
set_option maxHeartbeats 2000000 in
theorem row_any (sb : Nat) (r : List Int) (cv : Value) (cs : List Col) (key : Int) (w : World) (hs : SrcAt w sb r) (hc : ColsAt w sb cv cs) (hty : ∀ j (h : j < cs.length), 1 ≤ (cs[j]'h).ty ∧ (cs[j]'h).ty ≤ 5) (h12 : cs.length ≤ 12) :
    Calls Try.prog 41 #[.pointer (some ⟨sb, 0, none⟩), .agg #[cv, .int .i64 key]] w fun e w' => ∃ v vs r', e = .returned v ∧ Moved sb w w' ∧ SrcAt w' sb r' ∧ w'.ownsRow w.heap.size 33 3 v vs.length (vs.flatMap valC) ∧ vs.length = cs.length ∧ RowPre cs vs := by
  obtain ⟨i0, hi, hz0, hz1, hz2⟩ := info_parts infoVal
  obtain ⟨ca, cc, rfl⟩ := cols_end hc
  obtain ⟨n, hl⟩ : ∃ n, cs.length = n := ⟨_, rfl⟩
  have HL := Lib.hid hl
  have HC : Hid (ColsAt w sb (.slice ca n cc) cs) := Lib.hid (by rw [← hl]; exact hc)
  rw [hl] at h12 ⊢
  have HT := Lib.hid hty
  have hsl := hs.lt
  have HS := Lib.hid hs
  clear hl hc hty hs
  go_enter Try.func41, Try.ntmps41
  go_upto_region 2 with fail
  refine captureM ?_
  intro y ey
  have M0 : KpMem valC 33 3 y sb y (.slice none 0 0) [] r := by rw [ey]; exact ⟨Mv.refl _ _, by simp; omega, HS.out.al _, World.ownsRow_nil _ _ _ _⟩
  have yw : Below w.heap.size w y := by rw [ey]; exact (by repeat (first | with_reducible exact Below.refl _ _ | with_reducible assumption | with_reducible refine Below.al ?_ _ | with_reducible refine Below.on ?_ _ | with_reducible refine Below.st ?_ (by first | assumption | (simp; done) | (simp; omega)) _ | with_reducible refine Below.drew ?_))
  have y0 : y.cell? ⟨w.heap.size, 0, none⟩ = some (.slice ca n cc) := by rw [ey]; simp [go_sem]
  have y1 : y.cell? ⟨w.heap.size, 1, none⟩ = some (.int .i64 key) := by rw [ey]; simp [go_sem]
  have yl : w.heap.size < y.heap.size := by rw [ey]; simp
  have M0' := Lib.hid M0
  clear ey M0
  go_wp2_with fail
  go_loopg [5, 11] n (fun g v i wr => ∃ (k : Nat) (vs : List Val) (r' : List Int), k + g = n ∧ i = .int .i64 (k : Int) ∧ vs.length = k ∧ RowPre cs vs ∧ KpMem valC 33 3 y sb wr v vs r')
  case atStart => exact ⟨0, [], r, by omega, rfl, rfl, fun j hj => absurd hj (by simp), M0'.out⟩
  case round =>
    obtain ⟨k, vs, r', hk, rfl, hvl, hp, M⟩ := hrel
    clear M0'
    by_cases hg0 : gk = 0
    · subst hg0
      obtain rfl : k = n := by omega
      have MO := Lib.hid M
      clear M
      go_wp2
      refine bodyPost_ret (v := u5) ?_ rfl ⟨u5, vs, r', rfl, ?_, MO.out.src, ?_, hvl, hp⟩
      · simp (maxDischargeDepth := 9) [results, Try.results41, go_sem, *]
      · exact (Moved.of_below yw).trans MO.out.mv.moved
      · have := MO.out.own
        refine ⟨this.1, this.2.imp id ?_⟩
        rintro ⟨g, cap, cur, h1, h2, h3⟩
        exact ⟨g, cap, cur, h1, by omega, h3⟩
    · have hkn : k < n := by omega
      have hkn' : (k : Int) < (n : Int) := by omega
      have hkl : k < cs.length := by rw [HL.out]; exact hkn
      obtain ⟨cb, co, rfl, hcap, hcb, c0, c1, c2, c3⟩ := cols_in HC.out hkl
      have TK := HT.out k hkl
      obtain ⟨d, hd⟩ : ∃ d, cs[k]'hkl = d := ⟨_, rfl⟩
      have HP := Lib.hid (And.intro hp (And.intro hvl hd))
      rw [hd] at c0 c1 c2 c3 TK
      obtain ⟨cn, ty, sc, nul⟩ := d
      dsimp only at c0 c1 c2 c3 TK
      have bw : cb < w.heap.size := by omega
      have by' : cb < y.heap.size := by omega
      have bn : ¬ cb = sb := by omega
      have f0 := ((M.mv.cell (co + k * 4) by' bn).trans (yw.cell (p := ⟨cb, co + k * 4, none⟩) bw)).trans c0
      have f1 := ((M.mv.cell (co + k * 4 + 1) by' bn).trans (yw.cell (p := ⟨cb, co + k * 4 + 1, none⟩) bw)).trans c1
      have f2 := ((M.mv.cell (co + k * 4 + 2) by' bn).trans (yw.cell (p := ⟨cb, co + k * 4 + 2, none⟩) bw)).trans c2
      have f3 := ((M.mv.cell (co + k * 4 + 3) by' bn).trans (yw.cell (p := ⟨cb, co + k * 4 + 3, none⟩) bw)).trans c3
      have fz : cb < wr.heap.size := Nat.lt_of_lt_of_le by' M.mv.size
      clear c0 c1 c2 c3 hd hp
      obtain ⟨⟨⟨vn, vi, vS⟩, rr⟩, hv0⟩ : ∃ p, valF ty nul r' = p := ⟨_, rfl⟩
      have VOK := valF_ok (ty := ty) nul r' TK.1 TK.2
      rw [hv0] at VOK
      have hv := Lib.hid hv0
      have HV := Lib.hid VOK
      have ML := Lib.hid M
      have k12 : k + 1 ≤ 12 := by omega
      have HG := Lib.hid (And.intro hk hg0)
      have Hvl := Lib.hid hvl
      have ysz := M.mv.size
      clear hv0 VOK M hk hg0 hvl
      go_wp2_with (first | (go_at_call 60; refine Calls.mono (value_eq hv.out sb cn sc _ (ML.out.src.al _)) ?_; rintro e w3 ⟨rfl, hm3, hs3⟩; have MK := (ML.out.al _).to (Mv.of_moved hm3 rfl) hs3; have MKH := Lib.hid MK; have zz := MK.mv.size; clear MK hm3 hs3) | (at_builtin; go_must (refine wpList_append_lies _ rfl _ _ 29 rfl y.heap.size 33 i0 _ 3 32 Try.underlying29 hi hz0 hz1 hz2 rfl (by decide) u5 vs.length (vs.flatMap valC) rfl (MKH.out.own.alloc _) ⟨w3.heap.size, 0, none⟩ 1 1 (valC ⟨vn, vi, vS⟩) rfl rfl (World.news_of_block (heap_alloc_new w3 _)) (by simp [valC, Value.oneCell']) (by omega) (by rw [Hvl.out]; unfold maxLen; omega) (by rw [Hvl.out]; omega) (by simp; omega) (w3.heap.size + 1) (by simp) ?_); intro gb cap w4 hown hgrow hat hlt; have MS := Lib.hid ((MKH.out.al _).step hgrow hown); clear hown hgrow hat hlt))
      go_roundg (gk - 1)
      case measure => have := HG.out; omega
      case rel =>
        exact ⟨k + 1, vs ++ [⟨vn, vi, vS⟩], rr, by have := HG.out; omega, by go_num, by rw [List.length_append, Hvl.out]; rfl, HP.out.1.snoc Hvl.out hkl (by rw [HP.out.2.2]; exact HV.out), MS.out⟩
end Go.Proofs.Ytkblkjfejaflkaa
