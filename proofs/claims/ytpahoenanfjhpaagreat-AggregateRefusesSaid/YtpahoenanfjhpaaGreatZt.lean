/-
  CHAPTER 26: Smm, Hlp (several texts in one). Conditions: each theorem states its own.
-/
import Derived.Test.YtpahoenanfjhpaaGreatRunz
import Derived.Test.YtpahoenanfjhpaaGreatZj
set_option linter.unusedVariables false
set_option linter.unusedSimpArgs false
namespace Go.Proofs.YtpahoenanfjhpaaGreat
open Go.RowKit Srt
def cs1 : List Col := [⟨⟨#[97]⟩, 1, 0, false⟩]
def valN (n : Int) : Val := ⟨false, n, ⟨#[]⟩⟩
def rowsN (x : List Int) : List (List Val) := x.map fun n => [valN n]
def totF (x : List Int) : Int := x.foldl (fun s n => s + n) 0
def runN (x : List Int) : List (List Val) × Int := if x = [] then ([[⟨true, 0, ⟨#[]⟩⟩]], 0) else if -9223372036854775808 ≤ totF x ∧ totF x < 9223372036854775808 then ([[valN (totF x)]], 0) else ([], 8)
theorem queryE_one : queryE cs1 0 [] [] [] [⟨3, 0⟩] = 0 := by kernel_rfl
theorem schemaF_one : schemaF cs1 0 = 0 := by kernel_rfl
theorem rowE_one (n : Int) : rowE cs1 [valN n] = 0 := by
  have h : vchk 1 false false n ⟨#[]⟩ = 0 := by simp [vchk, permF]
  simp [rowE, rowEs, cs1, valN, h]
theorem batchE_one {x : List Int} (h : x.length ≤ 4096) : batchE cs1 0 (rowsN x) = 0 := by
  have key : ∀ x : List Int, rowsE cs1 (rowsN x) = 0 := by
    intro x
    induction x with
    | nil => rfl
    | cons n x ih =>
      show (if rowE cs1 [valN n] = 0 then rowsE cs1 (rowsN x) else rowE cs1 [valN n]) = 0
      rw [if_pos (rowE_one n), ih]
  unfold batchE
  rw [if_pos schemaF_one, if_neg (by unfold rowsN; rw [List.length_map]; omega), key]
theorem selR_one (x : List Int) : selR cs1 [] (rowsN x) = rowsN x := by
  unfold selR
  rw [List.filter_eq_self]
  intro r _
  rfl
theorem sumW_all : ∀ (x : List Int) (s : Int), (∀ n ∈ x, -9223372036854775808 ≤ n ∧ n < 9223372036854775808) → -18446744073709551616000000 ≤ s - 9223372036854775808 * x.length → s + 9223372036854775808 * x.length ≤ 18446744073709551616000000 →
    (x.map valN).foldl (fun p v => (Wd.addHi p.1 p.2 (Wd.ofHi v.n) (Wd.ofLo v.n), Wd.addLo p.2 (Wd.ofLo v.n))) (s / 18446744073709551616, s % 18446744073709551616) = (x.foldl (fun s n => s + n) s / 18446744073709551616, x.foldl (fun s n => s + n) s % 18446744073709551616)
  | [], s, _, _, _ => rfl
  | n :: x, s, h, h1, h2 => by
    have hn := h n (by simp)
    rw [List.length_cons] at h1 h2
    have e1 : Wd.addHi (s / 18446744073709551616) (s % 18446744073709551616) (Wd.ofHi n) (Wd.ofLo n) = (s + n) / 18446744073709551616 := by
      have a1 : n / 9223372036854775808 = n / 18446744073709551616 := by omega
      have a2 : (s + n) / 18446744073709551616 = s / 18446744073709551616 + n / 18446744073709551616 + (s % 18446744073709551616 + n % 18446744073709551616) / 18446744073709551616 := by omega
      have a3 : -1000000 ≤ (s + n) / 18446744073709551616 := by omega
      have a4 : (s + n) / 18446744073709551616 ≤ 1000001 := by omega
      rw [Wd.addHi_eq, Wd.ofLo_eq]; unfold Wd.ofHi
      rw [a1, ← a2]
      generalize (s + n) / 18446744073709551616 = t at *
      omega
    have e2 : Wd.addLo (s % 18446744073709551616) (Wd.ofLo n) = (s + n) % 18446744073709551616 := by
      rw [Wd.addLo_eq, Wd.ofLo_eq]; omega
    have ih := sumW_all x (s + n) (fun m hm => h m (List.mem_cons_of_mem _ hm)) (by push_cast at h1; omega) (by push_cast at h2; omega)
    simp only [List.map_cons, List.foldl_cons]
    show ((x.map valN).foldl _ (Wd.addHi (s / 18446744073709551616) (s % 18446744073709551616) (Wd.ofHi n) (Wd.ofLo n), Wd.addLo (s % 18446744073709551616) (Wd.ofLo n))) = _
    rw [e1, e2]
    exact ih
theorem sumW_one {x : List Int} (h : ∀ n ∈ x, -9223372036854775808 ≤ n ∧ n < 9223372036854775808) (hl : x.length ≤ 4096) : sumW (x.map valN) = (totF x / 18446744073709551616, totF x % 18446744073709551616) := by
  have := sumW_all x 0 h (by omega) (by omega)
  exact this
theorem aggF_one {x : List Int} (h : ∀ n ∈ x, -9223372036854775808 ≤ n ∧ n < 9223372036854775808) (hl : x.length ≤ 4096) : aggF cs1 ⟨3, 0⟩ (rowsN x) = if x = [] then (⟨true, 0, ⟨#[]⟩⟩, 0) else if -9223372036854775808 ≤ totF x ∧ totF x < 9223372036854775808 then (valN (totF x), 0) else (⟨false, 0, ⟨#[]⟩⟩, 8) := by
  have hv : valsC (rowsN x) 0 = x.map valN := by
    unfold valsC rowsN
    rw [List.map_map]
    have : ((fun r : List Val => r.getD 0 Val.zero) ∘ fun n => [valN n]) = valN := by funext n; rfl
    rw [this, List.filter_eq_self]
    intro v hv
    obtain ⟨n, _, rfl⟩ := List.mem_map.1 hv
    rfl
  have hv' : valsC (rowsN x) (⟨3, 0⟩ : Ag).col.toNat = x.map valN := hv
  unfold aggF
  rw [if_neg (by decide), if_neg (by decide), hv']
  by_cases hx : x = []
  · subst hx; rfl
  · rw [if_neg (by simpa using hx), if_neg hx, if_neg (by decide), if_neg (by decide), sumW_one h hl]
    show (if Wd.fitsB (totF x / 18446744073709551616) (totF x % 18446744073709551616) = true then ((⟨false, Wd.intN (totF x / 18446744073709551616) (totF x % 18446744073709551616), ⟨#[]⟩⟩ : Val), (0 : Int)) else _) = _
    have hf : Wd.fitsB (totF x / 18446744073709551616) (totF x % 18446744073709551616) = true ↔ -9223372036854775808 ≤ totF x ∧ totF x < 9223372036854775808 := by
      unfold Wd.fitsB
      rw [Wd.eqW_iff, Wd.ofLo_eq, Wd.wrap64_eq]
      unfold Wd.ofHi
      omega
    by_cases q : -9223372036854775808 ≤ totF x ∧ totF x < 9223372036854775808
    · rw [if_pos (hf.2 q), if_pos q, Wd.intN_yes (hf.2 q), Wd.wrap64_eq]
      have : (totF x % 18446744073709551616 + 9223372036854775808) % 18446744073709551616 - 9223372036854775808 = totF x := by omega
      rw [this]; rfl
    · rw [if_neg (fun e => q (hf.1 e)), if_neg q]
theorem run_one {x : List Int} (h : ∀ n ∈ x, -9223372036854775808 ≤ n ∧ n < 9223372036854775808) (hl : x.length ≤ 4096) : runF cs1 0 [] [] [] [⟨3, 0⟩] (rowsN x) = runN x := by
  unfold runF
  rw [if_pos queryE_one, if_pos (batchE_one hl), selR_one]
  have hg : groupsF cs1 [] (rowsN x) = [rowsN x] := by
    unfold groupsF
    by_cases q : rowsN x = []
    · rw [if_pos ⟨q, rfl⟩, q]
    · rw [if_neg (fun e => q e.1), Srt.grp_zero (d := fun x y => grpC cs1 x y []) (fun _ _ => rfl), if_neg q]
  unfold resF
  rw [if_neg (by decide), hg]
  have hh : headR [] (rowsN x) = [] := by cases x <;> rfl
  have hE : groupsE cs1 [] [⟨3, 0⟩] [rowsN x] = (aggF cs1 ⟨3, 0⟩ (rowsN x)).2 := by
    show (if (groupF cs1 [] [⟨3, 0⟩] (rowsN x)).2 = 0 then 0 else (groupF cs1 [] [⟨3, 0⟩] (rowsN x)).2) = _
    unfold groupF aggsR aggsR
    by_cases q : (aggF cs1 ⟨3, 0⟩ (rowsN x)).2 = 0 <;> simp [q]
  have hF : (aggF cs1 ⟨3, 0⟩ (rowsN x)).2 = 0 → (groupF cs1 [] [⟨3, 0⟩] (rowsN x)).1 = [(aggF cs1 ⟨3, 0⟩ (rowsN x)).1] := fun q => by
    unfold groupF aggsR aggsR
    simp [q, hh]
  rw [hE]
  unfold runN
  by_cases q : (aggF cs1 ⟨3, 0⟩ (rowsN x)).2 = 0
  · rw [if_pos q, List.map_cons, List.map_nil, hF q]
    rw [aggF_one h hl] at q ⊢
    by_cases hx : x = []
    · rw [if_pos hx, if_pos hx]
    · rw [if_neg hx] at q ⊢
      rw [if_neg hx]
      by_cases q2 : -9223372036854775808 ≤ totF x ∧ totF x < 9223372036854775808
      · rw [if_pos q2, if_pos q2]
      · rw [if_neg q2] at q; exact absurd q (by decide)
  · rw [if_neg q]
    rw [aggF_one h hl] at q ⊢
    by_cases hx : x = []
    · rw [if_pos hx] at q; exact absurd rfl q
    · rw [if_neg hx] at q ⊢
      rw [if_neg hx]
      by_cases q2 : -9223372036854775808 ≤ totF x ∧ totF x < 9223372036854775808
      · rw [if_pos q2] at q; exact absurd rfl q
      · rw [if_neg q2, if_neg q2]
end Go.Proofs.YtpahoenanfjhpaaGreat
namespace Go.Proofs.YtpahoenanfjhpaaGreat
open Go.RowKit
set_option maxRecDepth 8000 in
theorem one_any (w : World) : Calls Tryz.prog 26 #[] w fun e w' => ∃ v, e = .returned (.agg #[v, .int .i64 0]) ∧ ColsAt w' w'.heap.size v cs1 ∧ Below w.heap.size w w' := by
  go_enter Tryz.func26, Tryz.ntmps26
  go_wp2
  refine bodyPost_ret (v := .agg #[.slice (some ⟨w.heap.size + 1, 0, none⟩) 1 1, .int .i64 0]) (by simp (maxDischargeDepth := 9) [results, Tryz.results26, go_sem, *]) rfl ⟨_, rfl, ⟨by decide, .inr ⟨w.heap.size + 1, 0, 1, rfl, by decide, by simp, fun j hj => ?_⟩⟩, (by with_reducible repeat (first | exact Below.refl _ _ | assumption | refine Below.al ?_ _ | refine Below.on ?_ _ | refine Below.st ?_ (by first | assumption | (simp; done) | (simp; omega)) _ | refine Below.drew ?_))⟩
  obtain rfl : j = 0 := by simp [cs1] at hj; omega
  exact ⟨by simp (maxDischargeDepth := 9) [go_sem, cs1], by simp (maxDischargeDepth := 9) [go_sem, cs1], by simp (maxDischargeDepth := 9) [go_sem, cs1], by simp (maxDischargeDepth := 9) [go_sem, cs1]⟩
set_option maxRecDepth 8000 in
theorem sum_any (w : World) : Calls Tryz.prog 27 #[] w fun e w' => ∃ v, e = .returned (.agg #[.slice none 0 0, .slice none 0 0, .slice none 0 0, v]) ∧ AgsAt w' w'.heap.size v [⟨3, 0⟩] ∧ Below w.heap.size w w' := by
  go_enter Tryz.func27, Tryz.ntmps27
  go_wp2
  refine bodyPost_ret (v := .agg #[.slice none 0 0, .slice none 0 0, .slice none 0 0, .slice (some ⟨w.heap.size + 1, 0, none⟩) 1 1]) (by simp (maxDischargeDepth := 9) [results, Tryz.results27, go_sem, *]) rfl ⟨_, rfl, ⟨by decide, .inr ⟨w.heap.size + 1, 0, 1, rfl, by decide, by simp, fun j hj => ?_⟩⟩, (by with_reducible repeat (first | exact Below.refl _ _ | assumption | refine Below.al ?_ _ | refine Below.on ?_ _ | refine Below.st ?_ (by first | assumption | (simp; done) | (simp; omega)) _ | refine Below.drew ?_))⟩
  obtain rfl : j = 0 := by simp at hj; omega
  exact ⟨by simp (maxDischargeDepth := 9) [go_sem], by simp (maxDischargeDepth := 9) [go_sem]⟩
set_option maxRecDepth 8000 in
set_option maxHeartbeats 2000000 in
theorem single_any (v : Value) (l : List Int) (w : World) (h : IntsAt w w.heap.size v l) (h4 : l.length ≤ 4096) :
    Calls Tryz.prog 28 #[v] w fun e w' => ∃ q, e = .returned q ∧ RowsAt w' w'.heap.size q (rowsN l) ∧ Below w.heap.size w w' := by
  obtain ⟨i0, hi, hz0, hz1, hz2⟩ := info_parts infoRow
  obtain ⟨la, lc, rfl⟩ := ints_end h
  obtain ⟨n, hn⟩ : ∃ n, l.length = n := ⟨_, rfl⟩
  have HI := Lib.hid h
  have LN := Lib.hid hn
  rw [hn] at h4 HI ⊢
  clear h hn
  go_enter Tryz.func28, Tryz.ntmps28
  go_wp2_with fail
  go_loopg [3, 8] n (fun g v st wr => ∃ (k : Nat) (lvs : List Value), k + g = n ∧ st = .int .i64 (k : Int) ∧ lvs.length ≤ k ∧ OutM w wr v lvs (rowsN (l.take k)))
  case atStart => exact ⟨0, [], by omega, rfl, Nat.le_refl _, by simpa [rowsN] using OutM.nil w⟩
  case round =>
    obtain ⟨k, lvs, hk, rfl, hlk, hout⟩ := hrel
    have HO := Lib.hid hout
    have hx := hout.below
    by_cases hg0 : gk = 0
    · subst hg0
      obtain rfl : k = n := by omega
      have TK : l.take k = l := List.take_of_length_le (by rw [LN.out]; exact Nat.le_refl _)
      rw [TK] at HO
      have FIN := Lib.hid (And.intro (HO.out.rows (by unfold rowsN; rw [List.length_map, LN.out]; omega)) hx)
      have tk : ¬ (k : Int) < (k : Int) := by omega
      clear hk TK hout HO
      go_wp2
      refine bodyPost_ret (v := u3) ?_ rfl ⟨u3, rfl, FIN.out.1, FIN.out.2⟩
      simp (maxDischargeDepth := 9) [results, Tryz.results28, go_sem, *]
    · have hkm : k < n := by omega
      have hkm' : (k : Int) < (n : Int) := by omega
      have hkl : k < l.length := by rw [LN.out]; exact hkm
      obtain ⟨b, o, rfl, hb, c0⟩ := ints_cell HI.out hkl
      have TS : rowsN (l.take (k + 1)) = rowsN (l.take k) ++ [[valN (l[k]'hkl)]] := by unfold rowsN; rw [List.take_succ_eq_append_getElem hkl, List.map_append]; rfl
      obtain ⟨z, hz⟩ : ∃ z, l[k]'hkl = z := ⟨_, rfl⟩
      rw [hz] at c0 TS
      have HTS := Lib.hid TS
      have f0 := (hx.cell (p := ⟨b, o + k, none⟩) hb).trans c0
      have zb : b < wr.heap.size := Nat.lt_of_lt_of_le hb hx.size
      have HK := Lib.hid (And.intro hk hg0)
      have hxw := hx.size
      clear c0 hz TS hk hg0 hout
      have HN : ∀ o1 o2 : Obj, ((wr.alloc o1).alloc o2).heap[wr.heap.size + 1]? = some o2 := fun o1 o2 => by have := heap_alloc_new (wr.alloc o1) o2; simpa using this
      have HNN := Lib.hid HN
      have V7 : Hid (ValsAt (wr.alloc (.cells #[.bool false, .int .i64 z, .string ⟨#[]⟩] 41)) (wr.alloc (.cells #[.bool false, .int .i64 z, .string ⟨#[]⟩] 41)).heap.size (.slice (some ⟨wr.heap.size, 0, none⟩) 1 1) [valN z]) := Lib.hid ⟨by simp, .inr ⟨wr.heap.size, 0, 1, rfl, by simp, by simp, fun j hj => by
        obtain rfl : j = 0 := by simp at hj; omega
        exact ⟨by simp (maxDischargeDepth := 9) [go_sem, valN], by simp (maxDischargeDepth := 9) [go_sem, valN], by simp (maxDischargeDepth := 9) [go_sem, valN]⟩⟩⟩
      have HU : Hid (∀ k, u3.ownBlock = some k → k < wr.heap.size) := Lib.hid (fun k hk => (HO.out.own.lt k hk).2)
      clear HN
      go_wp2_with (at_builtin; go_must (refine wpList_append_lies _ rfl _ _ 30 rfl w.heap.size 42 i0 _ 1 24 Tryz.underlying30 hi hz0 hz1 hz2 rfl (by decide) u3 lvs.length (lvs.flatMap one1) rfl ((HO.out.own.alloc _).alloc _) ⟨wr.heap.size + 1, 0, none⟩ 1 1 [.slice (some ⟨wr.heap.size, 0, none⟩) 1 1] rfl rfl (World.news_of_block (HNN.out _ _)) (by simp [Value.oneCell']) (by omega) (by unfold maxLen; omega) (by omega) (by simp; omega) (wr.heap.size + 2) (by simp) ?_); intro gb cap w4 hown hgrow hat hlt4; go_must (have MS := Lib.hid ((HO.out.on ((Below.refl _ _).alloc (Nat.le_refl _) _)).app V7.out (fun k hk => by (simp [Value.ownBlock] at hk; subst hk; exact ⟨hxw, by simp, fun e => by have := HU.out _ e; omega⟩)) hown hgrow (hat.imp id (fun q => by rw [q]; simp)))); clear hown hgrow hat hlt4)
      go_roundg (gk - 1)
      case measure => have := HK.out; omega
      case rel => exact ⟨k + 1, lvs ++ [.slice (some ⟨wr.heap.size, 0, none⟩) 1 1], by have := HK.out; omega, by go_num, by simp; exact hlk, by rw [HTS.out]; exact MS.out⟩
theorem run_law (x : List Int) (v1 v2 v3 : Value) (w : World) (hc : ColsAt w w.heap.size v1 cs1) (ha : AgsAt w w.heap.size v2 [⟨3, 0⟩]) (hr : RowsAt w w.heap.size v3 (rowsN x)) (hx : ∀ n ∈ x, -9223372036854775808 ≤ n ∧ n < 9223372036854775808) (hl : x.length ≤ 4096) :
    Calls Tryz.prog 25 #[.agg #[v1, .int .i64 0], .agg #[.slice none 0 0, .slice none 0 0, .slice none 0 0, v2], v3] w (ResPost w (runN x).1 (runN x).2) := by
  have q := arun_any v1 cs1 0 (.slice none 0 0) [] (.slice none 0 0) [] (.slice none 0 0) [] v2 [⟨3, 0⟩] v3 (rowsN x) w hc ⟨by simp, .inl ⟨rfl, none, 0, rfl⟩⟩ ⟨fun z hz => absurd hz (by simp), by simp, .inl ⟨rfl, none, 0, rfl⟩⟩ ⟨fun z hz => absurd hz (by simp), by simp, .inl ⟨rfl, none, 0, rfl⟩⟩ ha hr (fun d hd => absurd hd (by simp))
  rw [run_one hx hl] at q
  exact q
/-- A list of integers in a block of its own. -/
theorem lit_ints {w : World} {b n : Nat} {l : List Int} (hl : l.length = n) (hn : n ≤ 9223372036854775807) (hi : ∀ z ∈ l, isI z) (hb : b < w.heap.size) (hc : ∀ j, j < n → w.cell? ⟨b, j, none⟩ = some (.int .i64 (l.getD j 0))) : IntsAt w w.heap.size (.slice (some ⟨b, 0, none⟩) n n) l := by
  subst hl
  exact ⟨hi, hn, .inr ⟨b, 0, l.length, rfl, hb, fun j hj => by rw [Nat.zero_add]; exact hc j hj⟩⟩
theorem lit_alloc (w : World) (T : TypeId) (l : List Int) (hi : ∀ z ∈ l, isI z) (hl : l.length ≤ 9223372036854775807) : IntsAt (w.alloc (.cells (l.map (.int .i64)).toArray T)) (w.alloc (.cells (l.map (.int .i64)).toArray T)).heap.size (.slice (some ⟨w.heap.size, 0, none⟩) l.length l.length) l := by
  refine lit_ints rfl hl hi (by simp) (fun j hj => ?_)
  have := heap_alloc_new w (.cells (l.map (.int .i64)).toArray T)
  rw [cell_of_row _ w.heap.size j _ T (0, 0) this]
  simp [List.getElem?_eq_getElem hj, List.getD]
/-- One row of one value. -/
theorem lit_row {w : World} {b c : Nat} {v : Val} (hb : b < w.heap.size) (hc : c < w.heap.size) (h0 : w.cell? ⟨b, 0, none⟩ = some (.bool v.null)) (h1 : w.cell? ⟨b, 1, none⟩ = some (.int .i64 v.n)) (h2 : w.cell? ⟨b, 2, none⟩ = some (.string v.s)) (h3 : w.cell? ⟨c, 0, none⟩ = some (.slice (some ⟨b, 0, none⟩) 1 1)) :
    RowsAt w w.heap.size (.slice (some ⟨c, 0, none⟩) 1 1) [[v]] := by
  refine ⟨by simp, .inr ⟨c, 0, 1, rfl, by simp, hc, fun j hj => ?_⟩⟩
  obtain rfl : j = 0 := by simp at hj; omega
  refine ⟨_, h3, by simp, .inr ⟨b, 0, 1, rfl, by simp, hb, fun j hj => ?_⟩⟩
  obtain rfl : j = 0 := by simp at hj; omega
  exact ⟨h0, h1, h2⟩
theorem lit_alloc2 (W : World) (v : Val) (T1 T2 : TypeId) : RowsAt ((W.alloc (.cells #[.bool v.null, .int .i64 v.n, .string v.s] T1)).alloc (.cells #[.slice (some ⟨W.heap.size, 0, none⟩) 1 1] T2)) ((W.alloc (.cells #[.bool v.null, .int .i64 v.n, .string v.s] T1)).alloc (.cells #[.slice (some ⟨W.heap.size, 0, none⟩) 1 1] T2)).heap.size (.slice (some ⟨W.heap.size + 1, 0, none⟩) 1 1) [[v]] :=
  lit_row (b := W.heap.size) (by simp; omega) (by simp) (by simp (maxDischargeDepth := 9) [go_sem]) (by simp (maxDischargeDepth := 9) [go_sem]) (by simp (maxDischargeDepth := 9) [go_sem]) (by simp (maxDischargeDepth := 9) [go_sem])
theorem run_res {x : List Int} {R : List (List Val)} {err : Int} (hR : runN x = (R, err)) (hx : ∀ n ∈ x, -9223372036854775808 ≤ n ∧ n < 9223372036854775808) (hl : x.length ≤ 4096) (v1 v2 v3 : Value) (w : World) (hc : ColsAt w w.heap.size v1 cs1) (ha : AgsAt w w.heap.size v2 [⟨3, 0⟩]) (hr : RowsAt w w.heap.size v3 (rowsN x)) :
    Calls Tryz.prog 25 #[.agg #[v1, .int .i64 0], .agg #[.slice none 0 0, .slice none 0 0, .slice none 0 0, v2], v3] w (ResPost w R err) := by
  have q := run_law x v1 v2 v3 w hc ha hr hx hl
  rw [hR] at q; exact q
set_option maxRecDepth 8000 in
set_option maxHeartbeats 2000000 in
theorem awake26 (w : World) : Calls Tryz.prog 10 #[] w fun e w' => e = .returned (.bool true) ∧ Below w.heap.size w w' := by
  have LIT : Hid (∀ z ∈ ([3, 4] : List Int), isI z) := Lib.hid (by intro z hz; simp at hz; unfold isI; omega)
  have RUN := Lib.hid (run_res (show runN [3, 4] = ([[valN 7]], 0) from rfl) (by decide) (by decide))
  go_enter Tryz.func10, Tryz.ntmps10
  go_upto_region 2 with (first
      | (go_at_call 26; refine Calls.mono (one_any _) ?_; rintro e w1 ⟨v1, rfl, hc1, hb1⟩; obtain ⟨xA, rfl⟩ := Ext.of hb1; have CA := Lib.hid hc1; clear hc1)
      | (go_at_call 27; refine Calls.mono (sum_any _) ?_; rintro e w2 ⟨v2, rfl, ha2, hb2⟩; obtain ⟨xB, rfl⟩ := Ext.of hb2; have AB := Lib.hid ha2; clear ha2)
      | (go_at_call 28; refine Calls.mono (single_any _ [3, 4] _ (lit_alloc _ _ [3, 4] LIT.out (by decide)) (by decide)) ?_; rintro e w3 ⟨v3, rfl, hr3, hb3⟩; obtain ⟨xC, rfl⟩ := Ext.of hb3; have RC := Lib.hid hr3; have kA : Below xA.it.heap.size xA.it xC.it := (by with_reducible repeat (first | exact Below.refl _ _ | assumption | refine Below.al ?_ _ | refine Below.on ?_ _ | refine Below.st ?_ (by first | assumption | (simp; done) | (simp; omega)) _ | refine Below.drew ?_)); have kB : Below xB.it.heap.size xB.it xC.it := (by with_reducible repeat (first | exact Below.refl _ _ | assumption | refine Below.al ?_ _ | refine Below.on ?_ _ | refine Below.st ?_ (by first | assumption | (simp; done) | (simp; omega)) _ | refine Below.drew ?_)); have CCA := Lib.hid (CA.out.mono kA kA.size); have AAB := Lib.hid (AB.out.mono kB kB.size); clear hr3 kA kB)
      | (go_at_call 25; refine Calls.mono (RUN.out _ _ _ _ CCA.out AAB.out RC.out) ?_; rintro e w4 ⟨v4, rfl, hr4, hb4⟩; obtain ⟨xD, rfl⟩ := Ext.of hb4; have RD := Lib.hid hr4; clear hr4))
  have hyx : Below w.heap.size w xD.it := (by with_reducible repeat (first | exact Below.refl _ _ | assumption | refine Below.al ?_ _ | refine Below.on ?_ _ | refine Below.st ?_ (by first | assumption | (simp; done) | (simp; omega)) _ | refine Below.drew ?_))
  go_wp2_with (go_at_call 17; refine Calls.mono (same_lists _ _ [[valN 7]] _ (RD.out.mono (((Below.refl _ _).alloc (Nat.le_refl _) _).alloc (by simp) _) (by simp; omega)) (lit_alloc2 xD.it (valN 7) _ _)) ?_; rintro e w5 ⟨rfl, hb5⟩; obtain ⟨x5, rfl⟩ := Ext.of hb5)
  exact bodyPost_ret (v := .bool true) (by simp [results, Tryz.results10, go_sem, *]) rfl (⟨rfl, by with_reducible repeat (first | exact Below.refl _ _ | assumption | refine Below.al ?_ _ | refine Below.on ?_ _ | refine Below.st ?_ (by first | assumption | (simp; done) | (simp; omega)) _ | refine Below.drew ?_)⟩)
end Go.Proofs.YtpahoenanfjhpaaGreat
