/-
  THE MAKERS: keep.columns: at most three columns. Conditions: the source lies in block sb, the columns in blocks below it.
-/
import Derived.Test.YtpahoenanfjhpaaGreatZd
import Derived.Test.YtpahoenanfjhpaaGreatZj
import Derived.Test.YtpahoenanfjhpaaGreatPrjz
set_option linter.unusedVariables false
set_option linter.unusedSimpArgs false
namespace Go.Proofs.YtpahoenanfjhpaaGreat
open Go.RowKit
set_option maxRecDepth 8000 in
set_option maxHeartbeats 2000000 in
theorem kcols_any (sb : Nat) (r : List Int) (cv : Value) (cs : List Col) (key : Int) (w : World) (hs : SrcAt w sb r) (hc : ColsAt w sb cv cs) (h1 : 1 ≤ cs.length) (h12 : cs.length ≤ 12) :
    Calls Tryz.prog 23 #[.pointer (some ⟨sb, 0, none⟩), .agg #[cv, .int .i64 key]] w fun e w' => ∃ v L r', e = .returned v ∧ Moved sb w w' ∧ SrcAt w' sb r' ∧ w'.ownsRow w.heap.size 3 1 v L.length (L.flatMap intC) ∧ L.length ≤ 3 ∧ InC cs.length L := by
  obtain ⟨i0, hi, hz0, hz1, hz2⟩ := info_parts infoInt1
  obtain ⟨ca, cc, rfl⟩ := cols_end hc
  obtain ⟨n, hl⟩ : ∃ n, cs.length = n := ⟨_, rfl⟩
  rw [hl] at h1 h12 ⊢
  have hsl := hs.lt
  have HS := Lib.hid hs
  clear hl hc hs
  go_enter Tryz.func23, Tryz.ntmps23
  go_upto_region 2 with fail
  refine captureM ?_
  intro y ey
  have S0 : Hid (SrcAt y sb r) := Lib.hid (by rw [ey]; exact HS.out.al _)
  have yw : Below w.heap.size w y := by rw [ey]; exact (by with_reducible repeat (first | exact Below.refl _ _ | assumption | refine Below.al ?_ _ | refine Below.on ?_ _ | refine Below.st ?_ (by first | assumption | (simp; done) | (simp; omega)) _ | refine Below.drew ?_))
  have y0 : y.cell? ⟨w.heap.size, 0, none⟩ = some (.slice ca n cc) := by rw [ey]; simp [go_sem]
  have y1 : y.cell? ⟨w.heap.size, 1, none⟩ = some (.int .i64 key) := by rw [ey]; simp [go_sem]
  have yl : w.heap.size < y.heap.size := by rw [ey]; simp
  clear ey
  have nb := nextF_bd r (n := 4) (by decide)
  obtain ⟨N0, hN0⟩ : ∃ N0 : Nat, (nextF 4 r).1 = N0 := ⟨(nextF 4 r).1.toNat, by omega⟩
  have hN3 : N0 ≤ 3 := by omega
  have NX := Lib.hid (by have q := next_any sb r 4 (by decide) (by decide) y S0.out; rw [hN0] at q; exact q)
  generalize (nextF 4 r).2 = r0 at *
  clear hN0 nb
  go_wp2_with (go_at_call 20; refine Calls.mono NX.out ?_; rintro e w3 ⟨rfl, hm3, hs3⟩; have MK : Hid (KpMem intC 3 1 y sb w3 (.slice none 0 0) [] r0) := Lib.hid ⟨Mv.of_moved hm3 rfl, by omega, hs3, World.ownsRow_nil _ _ _ _⟩; clear hm3 hs3)
  go_loopg [5, 6] N0 (fun g v i wr => ∃ (L : List Int) (r' : List Int), L.length + g = N0 ∧ i = .int .i64 (g : Int) ∧ InC n L ∧ KpMem intC 3 1 y sb wr v L r')
  case atStart => exact ⟨[], r0, by simp, rfl, fun i hi => absurd hi (by simp), MK.out⟩
  case round =>
    obtain ⟨L, r', hk, rfl, hin, M⟩ := hrel
    clear MK
    have MO := Lib.hid M
    have HIN := Lib.hid hin
    by_cases hg0 : gk = 0
    · subst hg0
      have HK := Lib.hid hk
      clear hk hin M
      go_wp2
      refine bodyPost_ret (v := u5) ?_ rfl ⟨u5, L, r', rfl, ?_, MO.out.src, ?_, by have := HK.out; omega, HIN.out⟩
      · simp (maxDischargeDepth := 9) [results, Tryz.results23, go_sem, *]
      · exact (Moved.of_below yw).trans MO.out.mv.moved
      · have := MO.out.own
        refine ⟨this.1, this.2.imp id ?_⟩
        rintro ⟨g, cap, cur, h1, h2, h3⟩
        exact ⟨g, cap, cur, h1, by omega, h3⟩
    · have hlt : (0 : Int) < (gk : Int) := by omega
      have hlt1 : (1 : Int) ≤ (gk : Int) := by omega
      have hlt2 : (gk : Int) ≤ 3 := by omega
      have hL3 : L.length ≤ 3 := by omega
      have HK := Lib.hid (And.intro hk hg0)
      have hnsb : ¬ w.heap.size = sb := by omega
      have f0 := (MO.out.mv.cell 0 (b := w.heap.size) (by omega) hnsb).trans y0
      have fz : w.heap.size < wr.heap.size := by have := MO.out.mv.size; omega
      have hyz : y.heap.size ≤ wr.heap.size := MO.out.mv.size
      have nb := nextF_bd r' (n := (n : Int)) (by omega)
      obtain ⟨q, hq⟩ : ∃ q, (nextF (n : Int) r').1 = q := ⟨_, rfl⟩
      have NX2 := Lib.hid (by have h := next_any sb r' (n : Int) (by omega) (by omega) wr MO.out.src; rw [hq] at h; exact h)
      rw [hq] at nb
      have NB := Lib.hid nb
      generalize (nextF (n : Int) r').2 = r2 at *
      clear hq hk hg0 hin M nb
      go_wp2_with (first
        | (go_at_call 20; refine Calls.mono NX2.out ?_; rintro e w3 ⟨rfl, hm3, hs3⟩; have M3 := Lib.hid (MO.out.to (Mv.of_moved hm3 rfl) hs3); have z3 := hm3.size; clear hm3 hs3)
        | (at_builtin; go_must (refine wpList_append_lies _ rfl _ _ 26 rfl y.heap.size 3 i0 _ 1 8 Tryz.underlying26 hi hz0 hz1 hz2 rfl (by decide) u5 L.length (L.flatMap intC) rfl (M3.out.own.alloc _) ⟨w3.heap.size, 0, none⟩ 1 1 (intC q) rfl rfl (World.news_of_block (heap_alloc_new w3 _)) (by simp [intC, Value.oneCell']) (by omega) (by unfold maxLen; omega) (by omega) (by simp; omega) (w3.heap.size + 1) (by simp) ?_); intro gb cap w4 hown hgrow hat hlt4; go_must (have MS := Lib.hid ((M3.out.al _).step (c := q) hgrow hown)); clear hown hgrow hat hlt4))
      go_roundg (gk - 1)
      case measure => have := HK.out; omega
      case rel => exact ⟨L ++ [q], r2, by have := HK.out; simp; omega, by go_num, fun i hi => by (rcases List.mem_append.1 hi with h | h; exact HIN.out i h; rw [List.mem_singleton.1 h]; exact NB.out), MS.out⟩
end Go.Proofs.YtpahoenanfjhpaaGreat
