/-
  THE MAKERS: keep.Rows: valid rows. Conditions: the schema and the choices lie in memory as 'ColsAt', 'IntsAt' say.
-/
import Derived.Test.YtkblkjfejaflkaaKrw
set_option linter.unusedVariables false
set_option linter.unusedSimpArgs false
namespace Go.Proofs.Ytkblkjfejaflkaa
open Go.RowKit
/-- In world w the value v is a slice of the rows. -/
def RowsAt (w : World) (B : Nat) (v : Value) (rows : List (List Val)) : Prop :=
  rows.length ≤ 9223372036854775807 ∧
    ((rows = [] ∧ ∃ a c, v = .slice a 0 c) ∨ ∃ b o c, v = .slice (some ⟨b, o, none⟩) rows.length c ∧ rows.length ≤ c ∧ b < B ∧ ∀ j (h : j < rows.length), ∃ lv, w.cell? ⟨b, o + j, none⟩ = some lv ∧ ValsAt w B lv (rows[j]'h))
theorem rows_end {w : World} {B : Nat} {v : Value} {cs : List (List Val)} (h : RowsAt w B v cs) : ∃ a c, v = .slice a cs.length c := by
  rcases h.2 with ⟨e, a, c, rfl⟩ | ⟨b, o, c, rfl, _⟩
  · exact ⟨a, c, by rw [e]; rfl⟩
  · exact ⟨_, c, rfl⟩
theorem rows_in {w : World} {B : Nat} {a : Option Addr} {n c : Nat} {cs : List (List Val)} (h : RowsAt w B (.slice a n c) cs) {i : Nat} (hi : i < cs.length) : ∃ b o, a = some ⟨b, o, none⟩ ∧ cs.length ≤ c ∧ b < B ∧ ∃ lv, w.cell? ⟨b, o + i, none⟩ = some lv ∧ ValsAt w B lv (cs[i]'hi) := by
  rcases h.2 with ⟨e, _⟩ | ⟨b, o, c, hv, hcap, hb, hc⟩
  · subst e; exact absurd hi (by simp)
  · injection hv with h1 h2 h3
    subst h3
    exact ⟨b, o, h1, hcap, hb, hc i hi⟩
theorem RowsAt.mono {w w' : World} {B B' : Nat} {v : Value} {cs : List (List Val)} (h : RowsAt w B v cs) (hb : Below B w w') (hB : B ≤ B') : RowsAt w' B' v cs := by
  refine ⟨h.1, h.2.imp id ?_⟩
  rintro ⟨b, o, c, hv, hcap, hlt, hc⟩
  refine ⟨b, o, c, hv, hcap, Nat.lt_of_lt_of_le hlt hB, fun j hj => ?_⟩
  obtain ⟨lv, h1, h2⟩ := hc j hj
  exact ⟨lv, (hb.cell (p := ⟨b, o + j, none⟩) hlt).trans h1, h2.mono hb hB⟩
def one1 (v : Value) : List Value := [v]
/-- The rows that a list of values stands for; none lies in the block of the outer slice. -/
def Inn (B0 : Nat) (w : World) (v : Value) (lvs : List Value) (rows : List (List Val)) : Prop :=
  lvs.length = rows.length ∧ ∀ j (h : j < lvs.length) (h' : j < rows.length), ValsAt w w.heap.size (lvs[j]'h) (rows[j]'(h')) ∧ (∀ k, (lvs[j]'h).ownBlock = some k → B0 ≤ k ∧ k < w.heap.size ∧ v.ownBlock ≠ some k)
theorem Inn.mv {B0 sb : Nat} {w w' : World} {v : Value} {lvs : List Value} {rows : List (List Val)} (h : Inn B0 w v lvs rows) (hm : Mv (fun k => k = sb) w w') (hs : sb < B0) : Inn B0 w' v lvs rows := by
  refine ⟨h.1, fun j hj hj' => ?_⟩
  obtain ⟨h1, h2⟩ := h.2 j hj hj'
  exact ⟨(h1.keep fun k hk hq => hm.block k hk (by have := (h2 k hq).1; omega)).up hm.size, fun k hk => ⟨(h2 k hk).1, Nat.lt_of_lt_of_le (h2 k hk).2.1 hm.size, (h2 k hk).2.2⟩⟩
theorem Inn.step {B0 : Nat} {w w1 : World} {v v1 lv : Value} {lvs : List Value} {rows : List (List Val)} {rw' : List Val} (h : Inn B0 w v lvs rows) (hv : ValsAt w w.heap.size lv rw') (hl : ∀ k, lv.ownBlock = some k → B0 ≤ k ∧ k < w.heap.size ∧ v.ownBlock ≠ some k)
    (hg : w.grownBy w1 v.ownBlock) (ha : v.ownBlock = v1.ownBlock ∨ v1.ownBlock = some w.heap.size) : Inn B0 w1 v1 (lvs ++ [lv]) (rows ++ [rw']) := by
  have key : ∀ (lv : Value) (rw' : List Val), ValsAt w w.heap.size lv rw' → (∀ k, lv.ownBlock = some k → B0 ≤ k ∧ k < w.heap.size ∧ v.ownBlock ≠ some k) → ValsAt w1 w1.heap.size lv rw' ∧ (∀ k, lv.ownBlock = some k → B0 ≤ k ∧ k < w1.heap.size ∧ v1.ownBlock ≠ some k) := by
    intro lv rw' hv hl
    refine ⟨(hv.keep fun k hk hq => hg.block k hk (fun e => (hl k hq).2.2 e.symm)).up hg.size, fun k hk => ⟨(hl k hk).1, Nat.lt_of_lt_of_le (hl k hk).2.1 hg.size, ?_⟩⟩
    rcases ha with q | q
    · rw [← q]; exact (hl k hk).2.2
    · rw [q]; intro e; injection e with e; have := (hl k hk).2.1; omega
  refine ⟨by simp [h.1], fun j hj hj' => ?_⟩
  rcases Nat.lt_or_ge j lvs.length with q | q
  · have q' : j < rows.length := by rw [← h.1]; exact q
    rw [List.getElem_append_left q, List.getElem_append_left q']
    exact key _ _ (h.2 j q q').1 (h.2 j q q').2
  · obtain rfl : j = lvs.length := by simp at hj; omega
    have e1 : (lvs ++ [lv])[lvs.length]'hj = lv := by simp
    have e2 : (rows ++ [rw'])[lvs.length]'hj' = rw' := by simp [h.1]
    rw [e1, e2]
    exact key _ _ hv hl
theorem inn_rows {B0 : Nat} {w : World} {base : Nat} {T : TypeId} {v : Value} {lvs : List Value} {rows : List (List Val)} (hl : rows.length ≤ 9223372036854775807) (hi : Inn B0 w v lvs rows) (h : w.ownsRow base T 1 v lvs.length (lvs.flatMap one1)) : RowsAt w w.heap.size v rows := by
  rcases own_at (f := one1) (k := 1) (fun _ => rfl) h with ⟨rfl, rfl⟩ | ⟨g, c, rfl, hc, _, hg, H⟩
  · have : rows = [] := List.eq_nil_of_length_eq_zero hi.1.symm
    subst this
    exact ⟨hl, .inl ⟨rfl, none, 0, rfl⟩⟩
  · refine ⟨hl, .inr ⟨g, 0, c, by rw [hi.1], by rw [← hi.1]; exact hc, hg, fun j hj => ?_⟩⟩
    have hj' : j < lvs.length := by rw [hi.1]; exact hj
    refine ⟨lvs[j]'hj', ?_, (hi.2 j hj' hj).1⟩
    have := H j hj' 0 _ (by omega) rfl
    simpa using this
theorem infoRow : (Try.prog.info? 29).map (fun i => (i.zero, i.size, i.bytes)) = some (some (.slice none 0 0), 1, 24) := by kernel_rfl
set_option maxRecDepth 8000 in
set_option maxHeartbeats 2000000 in
theorem rows_any (cv : Value) (cs : List Col) (key : Int) (lv : Value) (zs : List Int) (n : Int) (w : World) (hc : ColsAt w w.heap.size cv cs) (h : IntsAt w w.heap.size lv zs) (h0 : 0 ≤ n) (h1 : n ≤ 100) (hty : ∀ j (h : j < cs.length), 1 ≤ (cs[j]'h).ty ∧ (cs[j]'h).ty ≤ 5) (h12 : cs.length ≤ 12) :
    Calls Try.prog 28 #[.agg #[cv, .int .i64 key], lv, .int .i64 n] w fun e w' => ∃ v rows, e = .returned v ∧ RowsAt w' w'.heap.size v rows ∧ (rows.length : Int) ≤ n ∧ (∀ rw' ∈ rows, rw'.length = cs.length ∧ RowPre cs rw') ∧ Below w.heap.size w w' := by
  obtain ⟨i0, hi, hz0, hz1, hz2⟩ := info_parts infoRow
  obtain ⟨ca, cc, rfl⟩ := cols_end hc
  obtain ⟨m, hl⟩ : ∃ m, cs.length = m := ⟨_, rfl⟩
  have HL := Lib.hid hl
  have HC : Hid (ColsAt w w.heap.size (.slice ca m cc) cs) := Lib.hid (by rw [← hl]; exact hc)
  have HT := Lib.hid (And.intro hty h12)
  rw [hl]
  have h2 : IntsAt (w.alloc (.cells #[.slice ca m cc, .int .i64 key] 28)) (w.alloc (.cells #[.slice ca m cc, .int .i64 key] 28)).heap.size lv zs := (h.to (fun k hk => Below.heap_alloc _ _ _ hk)).mono (by simp)
  clear hl hc hty h12 h
  go_enter Try.func28, Try.ntmps28
  go_upto_region 3 with (go_at_call 39; refine (from_any lv zs _ h2).mono ?_; rintro e w1 ⟨rfl, hb1, hs1⟩; obtain ⟨x1, rfl⟩ := Ext.of hb1; have z0 : w.heap.size < x1.it.heap.size := x1.lt (by simp))
  simp only [World.size_alloc] at hs1
  have y0 : x1.it.cell? ⟨w.heap.size, 0, none⟩ = some (.slice ca m cc) := (x1.cell w.heap.size 0 (by simp)).trans (by simp [go_sem])
  have y1 : x1.it.cell? ⟨w.heap.size, 1, none⟩ = some (.int .i64 key) := (x1.cell w.heap.size 1 (by simp)).trans (by simp [go_sem])
  have yw : Below w.heap.size w x1.it := (by repeat (first | with_reducible exact Below.refl _ _ | with_reducible assumption | with_reducible refine Below.al ?_ _ | with_reducible refine Below.on ?_ _ | with_reducible refine Below.st ?_ (by first | assumption | (simp; done) | (simp; omega)) _ | with_reducible refine Below.drew ?_))
  have HS := Lib.hid hs1
  have ysb := hs1.lt
  clear hb1 hs1 h2
  generalize x1.it = y at *
  clear x1
  go_wp2_with (go_at_call 40; refine Calls.mono (next_any _ zs (n + 1) (by omega) (by omega) _ HS.out) ?_; rintro e w3 ⟨rfl, hm3, hs3⟩; have MK : Hid (KpMem one1 29 1 y (w.heap.size + 1) w3 (.slice none 0 0) [] (nextF (n + 1) zs).2) := Lib.hid ⟨Mv.of_moved hm3 rfl, ysb, hs3, World.ownsRow_nil _ _ _ _⟩; clear hm3 hs3)
  have nb := nextF_bd zs (n := n + 1) (by omega)
  obtain ⟨N0, hN0⟩ : ∃ N0 : Nat, (nextF (n + 1) zs).1 = N0 := ⟨(nextF (n + 1) zs).1.toNat, by omega⟩
  have hN1 : (N0 : Int) ≤ n := by omega
  generalize (nextF (n + 1) zs).2 = r0 at *
  rw [hN0]
  clear hN0 nb HS
  go_loopg [8, 9] N0 (fun g v i wr => ∃ (lvs : List Value) (rows : List (List Val)) (r' : List Int), rows.length + g = N0 ∧ i = .int .i64 (g : Int) ∧ KpMem one1 29 1 y (w.heap.size + 1) wr v lvs r' ∧ Inn y.heap.size wr v lvs rows ∧ ∀ rw' ∈ rows, rw'.length = m ∧ RowPre cs rw')
  case atStart => exact ⟨[], [], r0, by simp, rfl, MK.out, ⟨rfl, fun j hj => absurd hj (by simp)⟩, fun a ha => absurd ha (by simp)⟩
  case round =>
    obtain ⟨lvs, rows, r', hk, rfl, M, I, hp⟩ := hrel
    clear MK
    have MO := Lib.hid (And.intro M (And.intro I hp))
    clear M I hp
    by_cases hg0 : gk = 0
    · subst hg0
      have HK := Lib.hid hk
      clear hk
      go_wp2
      refine bodyPost_ret (v := u8) ?_ rfl ⟨u8, rows, rfl, inn_rows (by have := HK.out; omega) MO.out.2.1 MO.out.1.own, by have := HK.out; omega, MO.out.2.2, ?_⟩
      · simp (maxDischargeDepth := 9) [results, Try.results28, go_sem, *]
      · exact Mv.below MO.out.1.mv yw (fun k hk => by omega)
    · have hlt : (0 : Int) < (gk : Int) := by omega
      have hlt1 : (1 : Int) ≤ (gk : Int) := by omega
      have hlt2 : (gk : Int) ≤ 100 := by omega
      have HK := Lib.hid (And.intro hk hg0)
      have f0 := (MO.out.1.mv.cell 0 (b := w.heap.size) (by omega) (by omega)).trans y0
      have f1 := (MO.out.1.mv.cell 1 (b := w.heap.size) (by omega) (by omega)).trans y1
      have fz : w.heap.size < wr.heap.size := by have := MO.out.1.mv.size; omega
      have HCr : Hid (ColsAt wr (w.heap.size + 1) (.slice ca m cc) cs) := Lib.hid ((HC.out.mono (B' := w.heap.size + 1) yw (by omega)).mv MO.out.1.mv.moved (by omega))
      have hyz : y.heap.size ≤ wr.heap.size := MO.out.1.mv.size
      have HV := Lib.hid (fun k (hk : u8.ownBlock = some k) => (MO.out.1.own.lt k hk).2)
      have RL : lvs.length ≤ 100 := by have := MO.out.2.1.1; omega
      have RG := Lib.hid RL
      clear hk hg0 RL
      go_wp2_with (first | (go_at_call 41; refine Calls.mono (row_any _ r' _ cs key _ MO.out.1.src HCr.out HT.out.1 HT.out.2) ?_; rintro e w3 ⟨v3, vs3, r3, rfl, hm3, hs3, ho3, hl3, hp3⟩; obtain ⟨a3, q3, rfl⟩ := own_form ho3; have MK := (MO.out.1.to (Mv.of_moved hm3 rfl) hs3); have IK := (MO.out.2.1.mv (Mv.of_moved (S := fun k => k = w.heap.size + 1) hm3 rfl) (by omega)); have VK := Lib.hid (And.intro (own_vals (by rw [hl3]; have := HT.out.2; omega) ho3) (And.intro (fun k (hk : Value.ownBlock (.slice a3 vs3.length q3) = some k) => (⟨by have := (ho3.lt k hk).1; omega, (ho3.lt k hk).2, fun e => by have := HV.out k e; have := (ho3.lt k hk).1; omega⟩ : y.heap.size ≤ k ∧ k < w3.heap.size ∧ u8.ownBlock ≠ some k)) (And.intro hl3 hp3))); have MKH := Lib.hid (And.intro MK IK); have zz := MK.mv.size; clear MK IK hm3 hs3 ho3 hl3 hp3) | (at_builtin; go_must (refine wpList_append_lies _ rfl _ _ 50 rfl y.heap.size 29 i0 _ 1 24 Try.underlying50 hi hz0 hz1 hz2 rfl (by decide) u8 lvs.length (lvs.flatMap one1) rfl (MKH.out.1.own.alloc _) ⟨w3.heap.size, 0, none⟩ 1 1 [.slice a3 vs3.length q3] rfl rfl (World.news_of_block (heap_alloc_new w3 _)) (by simp [Value.oneCell']) (by omega) (by have := RG.out; unfold maxLen; omega) (by have := RG.out; omega) (by simp; omega) (w3.heap.size + 1) (by simp) ?_); intro gb cap w4 hown hgrow hat hlt4; go_must (have MS := Lib.hid (And.intro ((MKH.out.1.al _).step (c := .slice a3 vs3.length q3) hgrow hown) (Inn.step (v1 := .slice (some ⟨gb, 0, none⟩) (lvs.length + 1) cap) (MKH.out.2.mv (Mv.al (Mv.refl _ _) _) (by omega)) ((VK.out.1.mono ((Below.refl _ _).alloc (Nat.le_refl _) _) (by simp))) (fun k hk => ⟨(VK.out.2.1 k hk).1, by have := (VK.out.2.1 k hk).2.1; simp; omega, (VK.out.2.1 k hk).2.2⟩) hgrow (hat.imp (fun q => q.trans rfl) (fun q => by rw [q]; simp [Value.ownBlock]))))); clear hown hgrow hat hlt4))
      go_roundg (gk - 1)
      case measure => have := HK.out; omega
      case rel =>
        exact ⟨lvs ++ [.slice a3 vs3.length q3], rows ++ [vs3], r3, by have := HK.out; simp; omega, by go_num, MS.out.1, MS.out.2, fun a ha => by
          rcases List.mem_append.1 ha with q | q
          · exact MO.out.2.2 a q
          · rw [List.mem_singleton.1 q]; exact ⟨by rw [VK.out.2.2.1]; exact HL.out, VK.out.2.2.2⟩⟩
end Go.Proofs.Ytkblkjfejaflkaa
