/-
  THE MAKERS: keep.Rows with its own block told; changes of a list of rows. Conditions: as for rows_any.
-/
import Derived.Test.YtkblkjfejaflkaaRst
set_option linter.unusedVariables false
set_option linter.unusedSimpArgs false
namespace Go.Proofs.Ytkblkjfejaflkaa
open Go.RowKit
def RowsPost (w : World) (cs : List Col) (n : Int) (e : Ending) (w' : World) : Prop := ∃ v lvs rows, e = .returned v ∧ w'.ownsRow w.heap.size 29 1 v lvs.length (lvs.flatMap one1) ∧ Inn w.heap.size w' v lvs rows ∧ (rows.length : Int) ≤ n ∧ (∀ rw' ∈ rows, rw'.length = cs.length ∧ RowPre cs rw') ∧ Below w.heap.size w w'
set_option maxRecDepth 8000 in
set_option maxHeartbeats 2000000 in
theorem rows_own (cv : Value) (cs : List Col) (key : Int) (lv : Value) (zs : List Int) (n : Int) (w : World) (hc : ColsAt w w.heap.size cv cs) (h : IntsAt w w.heap.size lv zs) (h0 : 0 ≤ n) (h1 : n ≤ 100) (hty : ∀ j (h : j < cs.length), 1 ≤ (cs[j]'h).ty ∧ (cs[j]'h).ty ≤ 5) (h12 : cs.length ≤ 12) :
    Calls Try.prog 28 #[.agg #[cv, .int .i64 key], lv, .int .i64 n] w (RowsPost w cs n) := by
  obtain ⟨i0, hi, hz0, hz1, hz2⟩ := info_parts infoRow
  obtain ⟨ca, cc, rfl⟩ := cols_end hc
  obtain ⟨m, hl⟩ : ∃ m, cs.length = m := ⟨_, rfl⟩
  have HL := Lib.hid hl
  have HC : Hid (ColsAt w w.heap.size (.slice ca m cc) cs) := Lib.hid (by rw [← hl]; exact hc)
  have HT := Lib.hid (And.intro hty h12)
  rw [hl]
  have h2 : IntsAt (w.alloc (.cells #[.slice ca m cc, .int .i64 key] 28)) (w.alloc (.cells #[.slice ca m cc, .int .i64 key] 28)).heap.size lv zs := (h.to (fun k hk => Below.heap_alloc _ _ _ hk)).mono (by simp)
  clear hl hc hty h12 h
  go_enter Try.func28, Try.ntmps28
  go_upto_region 3 with (go_at_call 39; refine (from_any lv zs _ h2).mono ?_; rintro e w1 ⟨rfl, hb1, hs1⟩; obtain ⟨x1, rfl⟩ := Ext.of hb1; have z0 : w.heap.size < x1.it.heap.size := x1.lt (by simp))
  simp only [World.size_alloc] at hs1
  have y0 : x1.it.cell? ⟨w.heap.size, 0, none⟩ = some (.slice ca m cc) := (x1.cell w.heap.size 0 (by simp)).trans (by simp [go_sem])
  have y1 : x1.it.cell? ⟨w.heap.size, 1, none⟩ = some (.int .i64 key) := (x1.cell w.heap.size 1 (by simp)).trans (by simp [go_sem])
  have yw : Below w.heap.size w x1.it := (by repeat (first | with_reducible exact Below.refl _ _ | with_reducible assumption | with_reducible refine Below.al ?_ _ | with_reducible refine Below.on ?_ _ | with_reducible refine Below.st ?_ (by first | assumption | (simp; done) | (simp; omega)) _ | with_reducible refine Below.drew ?_))
  have HS := Lib.hid hs1
  have ysb := hs1.lt
  clear hb1 hs1 h2
  generalize x1.it = y at *
  clear x1
  go_wp2_with (go_at_call 40; refine Calls.mono (next_any _ zs (n + 1) (by omega) (by omega) _ HS.out) ?_; rintro e w3 ⟨rfl, hm3, hs3⟩; have MK : Hid (KpMem one1 29 1 y (w.heap.size + 1) w3 (.slice none 0 0) [] (nextF (n + 1) zs).2) := Lib.hid ⟨Mv.of_moved hm3 rfl, ysb, hs3, World.ownsRow_nil _ _ _ _⟩; clear hm3 hs3)
  have nb := nextF_bd zs (n := n + 1) (by omega)
  obtain ⟨N0, hN0⟩ : ∃ N0 : Nat, (nextF (n + 1) zs).1 = N0 := ⟨(nextF (n + 1) zs).1.toNat, by omega⟩
  have hN1 : (N0 : Int) ≤ n := by omega
  generalize (nextF (n + 1) zs).2 = r0 at *
  rw [hN0]
  clear hN0 nb HS
  go_loopg [8, 9] N0 (fun g v i wr => ∃ (lvs : List Value) (rows : List (List Val)) (r' : List Int), rows.length + g = N0 ∧ i = .int .i64 (g : Int) ∧ KpMem one1 29 1 y (w.heap.size + 1) wr v lvs r' ∧ Inn y.heap.size wr v lvs rows ∧ ∀ rw' ∈ rows, rw'.length = m ∧ RowPre cs rw')
  case atStart => exact ⟨[], [], r0, by simp, rfl, MK.out, ⟨rfl, fun j hj => absurd hj (by simp)⟩, fun a ha => absurd ha (by simp)⟩
  case round =>
    obtain ⟨lvs, rows, r', hk, rfl, M, I, hp⟩ := hrel
    clear MK
    have MO := Lib.hid (And.intro M (And.intro I hp))
    clear M I hp
    by_cases hg0 : gk = 0
    · subst hg0
      have HK := Lib.hid hk
      clear hk
      go_wp2
      refine bodyPost_ret (v := u8) ?_ rfl ⟨u8, lvs, rows, rfl, own_baseM MO.out.1.own yw.size, ⟨MO.out.2.1.1, fun j hj hj' => ⟨(MO.out.2.1.2 j hj hj').1, fun k hk => ⟨Nat.le_trans yw.size ((MO.out.2.1.2 j hj hj').2 k hk).1, ((MO.out.2.1.2 j hj hj').2 k hk).2⟩⟩⟩, by have := HK.out; omega, fun r hr => by have := MO.out.2.2 r hr; rw [HL.out]; exact this, ?_⟩
      · simp (maxDischargeDepth := 9) [results, Try.results28, go_sem, *]
      · exact Mv.below MO.out.1.mv yw (fun k hk => by omega)
    · have hlt : (0 : Int) < (gk : Int) := by omega
      have hlt1 : (1 : Int) ≤ (gk : Int) := by omega
      have hlt2 : (gk : Int) ≤ 100 := by omega
      have HK := Lib.hid (And.intro hk hg0)
      have f0 := (MO.out.1.mv.cell 0 (b := w.heap.size) (by omega) (by omega)).trans y0
      have f1 := (MO.out.1.mv.cell 1 (b := w.heap.size) (by omega) (by omega)).trans y1
      have fz : w.heap.size < wr.heap.size := by have := MO.out.1.mv.size; omega
      have HCr : Hid (ColsAt wr (w.heap.size + 1) (.slice ca m cc) cs) := Lib.hid ((HC.out.mono (B' := w.heap.size + 1) yw (by omega)).mv MO.out.1.mv.moved (by omega))
      have hyz : y.heap.size ≤ wr.heap.size := MO.out.1.mv.size
      have HV := Lib.hid (fun k (hk : u8.ownBlock = some k) => (MO.out.1.own.lt k hk).2)
      have RL : lvs.length ≤ 100 := by have := MO.out.2.1.1; omega
      have RG := Lib.hid RL
      clear hk hg0 RL
      go_wp2_with (first | (go_at_call 41; refine Calls.mono (row_any _ r' _ cs key _ MO.out.1.src HCr.out HT.out.1 HT.out.2) ?_; rintro e w3 ⟨v3, vs3, r3, rfl, hm3, hs3, ho3, hl3, hp3⟩; obtain ⟨a3, q3, rfl⟩ := own_form ho3; have MK := (MO.out.1.to (Mv.of_moved hm3 rfl) hs3); have IK := (MO.out.2.1.mv (Mv.of_moved (S := fun k => k = w.heap.size + 1) hm3 rfl) (by omega)); have VK := Lib.hid (And.intro (own_vals (by rw [hl3]; have := HT.out.2; omega) ho3) (And.intro (fun k (hk : Value.ownBlock (.slice a3 vs3.length q3) = some k) => (⟨by have := (ho3.lt k hk).1; omega, (ho3.lt k hk).2, fun e => by have := HV.out k e; have := (ho3.lt k hk).1; omega⟩ : y.heap.size ≤ k ∧ k < w3.heap.size ∧ u8.ownBlock ≠ some k)) (And.intro hl3 hp3))); have MKH := Lib.hid (And.intro MK IK); have zz := MK.mv.size; clear MK IK hm3 hs3 ho3 hl3 hp3) | (at_builtin; go_must (refine wpList_append_lies _ rfl _ _ 50 rfl y.heap.size 29 i0 _ 1 24 Try.underlying50 hi hz0 hz1 hz2 rfl (by decide) u8 lvs.length (lvs.flatMap one1) rfl (MKH.out.1.own.alloc _) ⟨w3.heap.size, 0, none⟩ 1 1 [.slice a3 vs3.length q3] rfl rfl (World.news_of_block (heap_alloc_new w3 _)) (by simp [Value.oneCell']) (by omega) (by have := RG.out; unfold maxLen; omega) (by have := RG.out; omega) (by simp; omega) (w3.heap.size + 1) (by simp) ?_); intro gb cap w4 hown hgrow hat hlt4; go_must (have MS := Lib.hid (And.intro ((MKH.out.1.al _).step (c := .slice a3 vs3.length q3) hgrow hown) (Inn.step (v1 := .slice (some ⟨gb, 0, none⟩) (lvs.length + 1) cap) (MKH.out.2.mv (Mv.al (Mv.refl _ _) _) (by omega)) ((VK.out.1.mono ((Below.refl _ _).alloc (Nat.le_refl _) _) (by simp))) (fun k hk => ⟨(VK.out.2.1 k hk).1, by have := (VK.out.2.1 k hk).2.1; simp; omega, (VK.out.2.1 k hk).2.2⟩) hgrow (hat.imp (fun q => q.trans rfl) (fun q => by rw [q]; simp [Value.ownBlock]))))); clear hown hgrow hat hlt4))
      go_roundg (gk - 1)
      case measure => have := HK.out; omega
      case rel =>
        exact ⟨lvs ++ [.slice a3 vs3.length q3], rows ++ [vs3], r3, by have := HK.out; simp; omega, by go_num, MS.out.1, MS.out.2, fun a ha => by
          rcases List.mem_append.1 ha with q | q
          · exact MO.out.2.2 a q
          · rw [List.mem_singleton.1 q]; exact ⟨by rw [VK.out.2.2.1]; exact HL.out, VK.out.2.2.2⟩⟩
theorem rows_changed {B0 : Nat} {w W' : World} {v lv : Value} {lvs : List Value} {cols : List (List Val)} {g c k : Nat} {new : List Val} (hin : Inn B0 w v lvs cols) (hv : v = .slice (some ⟨g, 0, none⟩) lvs.length c) (hc : lvs.length ≤ c) (hg : g < w.heap.size) (hl : cols.length ≤ 9223372036854775807)
    (hs : w.heap.size ≤ W'.heap.size) (hold : ∀ q, q < w.heap.size → q ≠ g → W'.heap[q]? = w.heap[q]?) (hcell : ∀ j (h : j < lvs.length), j ≠ k → W'.cell? ⟨g, j, none⟩ = some (lvs[j]'h)) (hk : W'.cell? ⟨g, k, none⟩ = some lv) (hnew : ValsAt W' W'.heap.size lv new) :
    RowsAt W' W'.heap.size v (cols.set k new) := by
  refine ⟨by rw [List.length_set]; exact hl, .inr ⟨g, 0, c, by rw [List.length_set, ← hin.1]; exact hv, by rw [List.length_set, ← hin.1]; exact hc, by omega, fun j hj => ?_⟩⟩
  rw [List.length_set] at hj
  have hj' : j < lvs.length := by rw [hin.1]; exact hj
  by_cases e : j = k
  · subst e
    exact ⟨lv, by rw [Nat.zero_add]; exact hk, by rw [List.getElem_set_self]; exact hnew⟩
  · refine ⟨lvs[j]'hj', by rw [Nat.zero_add]; exact hcell j hj' e, ?_⟩
    rw [List.getElem_set_ne (Ne.symm e)]
    obtain ⟨h1, h2⟩ := hin.2 j hj' hj
    exact (h1.keep fun q hq ho => hold q hq (fun eq => (h2 q ho).2.2 (by rw [hv, eq]; rfl))).up hs
theorem vals_stored {w W' : World} {gb c i : Nat} {vals : List Val} {u : Val} (hl : vals.length ≤ 9223372036854775807) (hc : vals.length ≤ c) (hb : gb < W'.heap.size) (h : ∀ j (hj : j < vals.length), ValCells w gb (j * 3) (vals[j]'hj))
    (hw : ∀ o, o ≠ i * 3 → o ≠ i * 3 + 1 → o ≠ i * 3 + 2 → W'.cell? ⟨gb, o, none⟩ = w.cell? ⟨gb, o, none⟩) (h0 : ValCells W' gb (i * 3) u) : ValsAt W' W'.heap.size (.slice (some ⟨gb, 0, none⟩) vals.length c) (vals.set i u) := by
  refine ⟨by rw [List.length_set]; exact hl, .inr ⟨gb, 0, c, by rw [List.length_set], by rw [List.length_set]; exact hc, hb, fun j hj => ?_⟩⟩
  rw [List.length_set] at hj
  rw [Nat.zero_add]
  by_cases e : j = i
  · subst e
    rw [List.getElem_set_self]; exact h0
  · rw [List.getElem_set_ne (Ne.symm e)]
    obtain ⟨q0, q1, q2⟩ := h j hj
    exact ⟨(hw _ (by omega) (by omega) (by omega)).trans q0, (hw _ (by omega) (by omega) (by omega)).trans q1, (hw _ (by omega) (by omega) (by omega)).trans q2⟩
theorem Inn.on {B0 : Nat} {w w' : World} {v : Value} {lvs : List Value} {rows : List (List Val)} (h : Inn B0 w v lvs rows) (hb : Below w.heap.size w w') : Inn B0 w' v lvs rows :=
  ⟨h.1, fun j hj hj' => ⟨(h.2 j hj hj').1.mono hb hb.size, fun k hk => ⟨((h.2 j hj hj').2 k hk).1, Nat.lt_of_lt_of_le ((h.2 j hj hj').2 k hk).2.1 hb.size, ((h.2 j hj hj').2 k hk).2.2⟩⟩⟩
theorem vals_cut {w : World} {B : Nat} {a : Option Addr} {n c K : Nat} {l : List Val} (h : ValsAt w B (.slice a n c) l) (hn : l.length = n) (hK : K ≤ n) : ValsAt w B (.slice a K c) (l.take K) := by
  have h9 := h.1
  have hl : (l.take K).length = K := by simp; omega
  refine ⟨by rw [hl]; omega, ?_⟩
  rcases h.2 with ⟨e0, a', c', e1⟩ | ⟨b, o, c', hv, hc, hb, hr⟩
  · subst e0
    simp at hn
    subst hn
    obtain rfl : K = 0 := by omega
    exact .inl ⟨rfl, _, _, rfl⟩
  · injection hv with e1 e2 e3
    subst e1 e3
    exact .inr ⟨b, o, c, by rw [hl], by rw [hl]; omega, hb, fun j hj => by
      rw [List.getElem_take]; exact hr j (by rw [hl] at hj; omega)⟩
theorem run_vals_h {a : Option Addr} {n c K : Nat} (hK : K ≤ c) (W : World) : (Instr.slice 29 (.slice a n c) none (some (.int .i64 (K : Int))) none).run Try.prog W = .ok (.slice a K c) W := by
  have ht : Try.prog.underlying 29 = some (.slice (Try.prog.elem 29)) := by kernel_rfl
  have he : Try.prog.elem 29 = 33 := by kernel_rfl
  obtain ⟨i1, hj, hy0, hy1, hy2⟩ := info_parts infoVal
  rw [run_slice_h (ht := ht) (h0 := by omega) (h2 := by omega), he]
  simp [sizeOf, typeInfo, hj, hy1, Result.andThen, sliced]
  by_cases q : c = 0
  · simp [q]
  · cases a <;> simp [Addr.add]
end Go.Proofs.Ytkblkjfejaflkaa
