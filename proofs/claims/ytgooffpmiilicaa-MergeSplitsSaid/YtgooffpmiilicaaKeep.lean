/-
  THE MAKERS: keep.value. Conditions: each theorem states its own.
-/
import Derived.Test.YtgooffpmiilicaaSrc
import Derived.Deep.DeepCutAuto
import Derived.Deep.CutBlock
set_option linter.unusedVariables false
set_option linter.unusedSimpArgs false
namespace Go.Proofs.Ytgooffpmiilicaa
open Go.RowKit
/-- the number that keep.value draws -/
def numF (r : List Int) : Int × List Int :=
  let a := nextF 7 r
  let b := nextF 8 a.2
  if b.1 = 0 then rawF b.2 else if b.1 = 1 then ((rawF b.2).1.tmod 1000, (rawF b.2).2) else (wrap64 (a.1 - 2), b.2)
/-- the text that it draws: k letters behind s -/
def strF : Nat → ByteArray → List Int → ByteArray × List Int
  | 0, s, r => (s, r)
  | k + 1, s, r => strF k (s ++ ⟨#[UInt8.ofNat (wrap64 (97 + (nextF 3 r).1) % 256).toNat]⟩) (nextF 3 r).2
theorem run_str_one {P : Program} {src dst e T : TypeId} (w : World) (x : Int) (hs : P.underlying src = some (.slice e)) (he : P.underlying e = some (.int .u8)) (hd : P.underlying dst = some .string) :
    (convert src dst (.slice (some ⟨w.heap.size, 0, none⟩) 1 1)).run P (w.alloc (.cells #[.int .u8 x] T)) = .ok (.string ⟨#[UInt8.ofNat x.toNat]⟩) (w.alloc (.cells #[.int .u8 x] T)) := by
  have hl := run_loadCells_list (P := P) (w := w.alloc (.cells #[.int .u8 x] T)) ⟨w.heap.size, 0, none⟩ [.int .u8 x] (fun j v hj => by
    cases j with
    | zero => simp at hj; subst hj; simp [Addr.add]
    | succ j => simp at hj)
  rw [run_convert_bytes_string _ src dst e _ _ _ hs he hd, run_bytesToString _ _ _ _ [x] (by simpa using hl)]
  rfl
def nullF (nu : Bool) (r : List Int) : Int × List Int := if nu = true then nextF 4 r else (1, r)
def fitN (ty n : Int) : Int := if ty = 2 then bits .and .i64 n 1 else if ty = 4 then n.tmod 700000 else if ty = 5 then n.tmod 1000000000000000000 else n
/-- keep.value: the value, and the choices that are left -/
def valF (ty : Int) (nu : Bool) (r : List Int) : Val × List Int :=
  if (nullF nu r).1 = 0 then (⟨true, 0, ⟨#[]⟩⟩, (nullF nu r).2) else
  if ty = 3 then (⟨false, 0, (strF (nextF 4 (numF (nullF nu r).2).2).1.toNat ⟨#[]⟩ (nextF 4 (numF (nullF nu r).2).2).2).1⟩, (strF (nextF 4 (numF (nullF nu r).2).2).1.toNat ⟨#[]⟩ (nextF 4 (numF (nullF nu r).2).2).2).2)
  else (⟨false, fitN ty (numF (nullF nu r).2).1, ⟨#[]⟩⟩, (numF (nullF nu r).2).2)
def Val.enc (v : Val) : Value := .agg #[.bool v.null, .int .i64 v.n, .string v.s]
theorem ExtM.to {W w : World} {sb : Nat} (x : ExtM W sb) (h : Moved sb x.it w) : ∃ y : ExtM W sb, w = y.it := ⟨⟨w, x.moved.trans h⟩, rfl⟩
theorem ExtM.self (W : World) (sb : Nat) : ∃ y : ExtM W sb, y.it = W := ⟨⟨W, Moved.refl _ _⟩, rfl⟩

set_option maxRecDepth 20000 in
set_option maxHeartbeats 2000000 in
theorem value_any (sb : Nat) (r : List Int) (n1 : ByteArray) (ty sc : Int) (nu : Bool) (w : World) (h : SrcAt w sb r) :
    Calls Try.prog 60 #[.pointer (some ⟨sb, 0, none⟩), .agg #[.string n1, .int .i64 ty, .int .i64 sc, .bool nu]] w fun e w' => e = .returned (valF ty nu r).1.enc ∧ Moved sb w w' ∧ SrcAt w' sb (valF ty nu r).2 := by
  have hs := h.lt
  have ne0 : w.heap.size ≠ sb := by omega
  have ne1 : w.heap.size + 1 ≠ sb := by omega
  by_cases hz : (nullF nu r).1 = 0
  · have ev : valF ty nu r = (⟨true, 0, ⟨#[]⟩⟩, (nullF nu r).2) := by unfold valF; rw [if_pos hz]
    rw [ev]
    clear ev
    cases nu
    · exact absurd hz (by simp [nullF])
    have hz2 : (nextF 4 r).1 = 0 := hz
    clear hz
    go_enter Try.func60, Try.ntmps60
    go_wp2_with (go_at_call 37; refine (next_any sb r 4 (by decide) (by decide) _ ((h.al _).al _)).mono ?_; rintro e w1 ⟨rfl, hm, hs0⟩; obtain ⟨y0, rfl⟩ := ExtM.of hm)
    exact bodyPost_ret (v := .agg #[.bool true, .int .i64 0, .string ⟨#[]⟩]) (by simp [results, Try.results60, go_sem, *]) rfl (⟨rfl, by repeat (first | with_reducible exact Moved.refl _ _ | with_reducible assumption | with_reducible refine Moved.al ?_ _ | with_reducible refine Moved.onE ?_ _ | with_reducible refine Moved.on ?_ _ | with_reducible refine Moved.st ?_ _ _ _ | with_reducible refine Moved.stn ?_ (by first | assumption | (simp; done) | (simp; omega)) _ | with_reducible refine Moved.drew ?_), ((hs0.stn (by simp; omega) _).stn (by simp; omega) _).stn (by simp; omega) _⟩)
  generalize hr0 : (nullF nu r).2 = r0
  have ev := Lib.hid (show valF ty nu r = if ty = 3 then (⟨false, 0, (strF (nextF 4 (numF r0).2).1.toNat ⟨#[]⟩ (nextF 4 (numF r0).2).2).1⟩, (strF (nextF 4 (numF r0).2).1.toNat ⟨#[]⟩ (nextF 4 (numF r0).2).2).2)
      else (⟨false, fitN ty (numF r0).1, ⟨#[]⟩⟩, (numF r0).2) by unfold valF; rw [if_neg hz, hr0])
  cases nu
  · have hr1 : r0 = r := hr0.symm
    subst hr1
    clear hz
    go_enter Try.func60, Try.ntmps60
    go_upto_region 3 with fail
    have hs0 := (h.al (.cells #[.string n1, .int .i64 ty, .int .i64 sc, .bool false] 76)).al (.cells #[.bool false, .int .i64 0, .string ⟨#[]⟩] 37)
    obtain ⟨y0, e0⟩ := ExtM.self ((w.alloc (.cells #[.string n1, .int .i64 ty, .int .i64 sc, .bool false] 76)).alloc (.cells #[.bool false, .int .i64 0, .string ⟨#[]⟩] 37)) sb
    rw [← e0] at hs0 ⊢
    clear e0
    go_upto_region 4 with (go_at_call 37; refine (next_any sb r0 7 (by decide) (by decide) _ hs0).mono ?_; rintro e w1 ⟨rfl, hm1, hs1⟩; obtain ⟨y1, rfl⟩ := y0.to hm1)
    clear hs0 hm1
    go_upto_block 0 with (go_at_call 37; refine (next_any sb (nextF 7 r0).2 8 (by decide) (by decide) _ hs1).mono ?_; rintro e w2 ⟨rfl, hm2, hs2⟩; obtain ⟨y2, rfl⟩ := y1.to hm2)
    clear hs1 hm2
    go_cut [5, 20] (fun s5 s20 wx => s5 = .int .i64 (numF r0).1 ∧ (∃ y : ExtM ((w.alloc (.cells #[.string n1, .int .i64 ty, .int .i64 sc, .bool false] 76)).alloc (.cells #[.bool false, .int .i64 0, .string ⟨#[]⟩] 37)) sb, wx = y.it) ∧ SrcAt wx sb (numF r0).2)
    case first =>
      clear ev
      by_cases b0 : (nextF 8 (nextF 7 r0).2).1 = 0
      · have en := Lib.hid (show numF r0 = rawF (nextF 8 (nextF 7 r0).2).2 by simp [numF, b0])
        go_wp2_with (go_at_call 38; refine (raw_any sb (nextF 8 (nextF 7 r0).2).2 _ hs2).mono ?_; rintro e w3 ⟨rfl, hm3, hs3⟩; obtain ⟨y3, rfl⟩ := y2.to hm3)
        go_meet
        rw [en.out]
        exact ⟨rfl, ⟨_, rfl⟩, hs3⟩
      · by_cases b1 : (nextF 8 (nextF 7 r0).2).1 = 1
        · have en := Lib.hid (show numF r0 = ((rawF (nextF 8 (nextF 7 r0).2).2).1.tmod 1000, (rawF (nextF 8 (nextF 7 r0).2).2).2) by simp [numF, b1])
          clear b0
          go_wp2_with (go_at_call 38; refine (raw_any sb (nextF 8 (nextF 7 r0).2).2 _ hs2).mono ?_; rintro e w3 ⟨rfl, hm3, hs3⟩; obtain ⟨y3, rfl⟩ := y2.to hm3)
          go_meet
          rw [en.out]
          exact ⟨rfl, ⟨_, rfl⟩, hs3⟩
        · have en := Lib.hid (show numF r0 = (wrap64 ((nextF 7 r0).1 - 2), (nextF 8 (nextF 7 r0).2).2) by simp [numF, b0, b1])
          go_wp2
          go_meet
          rw [en.out]
          exact ⟨rfl, ⟨_, rfl⟩, hs2⟩
    case rest => 
      obtain ⟨rfl, ⟨y, rfl⟩, hs3⟩ := hcut
      clear hs2 y0 y1 y2
      by_cases t3 : ty = 3
      · subst t3
        have ev2 := Lib.hid (ev.out.trans (if_pos rfl))
        clear ev
        go_wp2_with (go_at_call 37; refine (next_any sb (numF r0).2 4 (by decide) (by decide) _ hs3).mono ?_; rintro e w4 ⟨rfl, hm4, hs4⟩; obtain ⟨y4, rfl⟩ := y.to hm4)
        have kb := nextF_bd (numF r0).2 (n := 4) (by decide)
        have kt := Lib.hid (show ((nextF 4 (numF r0).2).1.toNat : Int) = (nextF 4 (numF r0).2).1 by omega)
        generalize hZ : strF (nextF 4 (numF r0).2).1.toNat ⟨#[]⟩ (nextF 4 (numF r0).2).2 = Z at ev2
        have HZ := Lib.hid hZ
        have KB := Lib.hid kb
        clear hZ kb hm4 hs3
        go_loopg [6, 7] (nextF 4 (numF r0).2).1.toNat (fun g s t wr => ∃ st rs, st.size + g ≤ 3 ∧ s = .string st ∧ t = .int .i64 g ∧ strF g st rs = Z ∧ (∃ y : ExtM ((w.alloc (.cells #[.string n1, .int .i64 3, .int .i64 sc, .bool false] 76)).alloc (.cells #[.bool false, .int .i64 0, .string ⟨#[]⟩] 37)) sb, wr = y.it) ∧ SrcAt wr sb rs)
        case atStart => exact ⟨_, _, by have := KB.out.2; simp [ByteArray.size]; omega, rfl, by rw [kt.out], HZ.out, ⟨_, rfl⟩, hs4⟩
        case round =>
          obtain ⟨st, rs, hsz, rfl, rfl, hst, ⟨y5, rfl⟩, hs5⟩ := hrel
          clear HZ kt KB hs4 y4 y
          have HS := Lib.hid hst
          clear hst
          by_cases hg0 : gk = 0
          · subst hg0
            go_wp2
            exact bodyPost_ret (v := .agg #[.bool false, .int .i64 0, .string st]) (by simp [results, Try.results60, go_sem, *]) rfl (by rw [ev2.out]; obtain ⟨rfl, rfl⟩ := (show (Z.1 = st ∧ Z.2 = rs) from (HS.out ▸ ⟨rfl, rfl⟩)); exact ⟨rfl, by repeat (first | with_reducible exact Moved.refl _ _ | with_reducible assumption | with_reducible refine Moved.al ?_ _ | with_reducible refine Moved.onE ?_ _ | with_reducible refine Moved.on ?_ _ | with_reducible refine Moved.st ?_ _ _ _ | with_reducible refine Moved.stn ?_ (by first | assumption | (simp; done) | (simp; omega)) _ | with_reducible refine Moved.drew ?_), ((hs5.stn (by simp; omega) _).stn (by simp; omega) _).stn (by simp; omega) _⟩)
          · have hg1 : (0 : Int) < gk := by omega
            have hcv : ∀ (w0 : World) (x : Int), (convert 111 9 (.slice (some ⟨w0.heap.size, 0, none⟩) 1 1)).run Try.prog (w0.alloc (.cells #[.int .u8 x] 5)) = .ok (.string ⟨#[UInt8.ofNat x.toNat]⟩) (w0.alloc (.cells #[.int .u8 x] 5)) := fun w0 x => run_str_one (e := 5) w0 x (by kernel_rfl) (by kernel_rfl) (by kernel_rfl)
            have hsu : ∀ u : ByteArray, u.size = 1 → ¬ (9223372036854775807 < st.size + u.size) := by intro u hu; omega
            go_wp2_with (go_at_call 37; refine (next_any sb rs 3 (by decide) (by decide) _ hs5).mono ?_; rintro e w6 ⟨rfl, hm6, hs6⟩; obtain ⟨y6, rfl⟩ := y5.to hm6)
            go_roundg (gk - 1)
            case measure => omega
            case rel =>
              obtain ⟨g1, rfl⟩ : ∃ g1, gk = g1 + 1 := ⟨gk - 1, by omega⟩
              refine ⟨_, _, ?_, rfl, by go_num, HS.out, (y6.moved.al _ |> fun h => ExtM.of h), hs6.al _⟩
              rw [ByteArray.size_append]; show st.size + 1 + (g1 + 1 - 1) ≤ 3; omega
      · have ev2 := Lib.hid (ev.out.trans (if_neg t3))
        clear ev
        by_cases t2 : ty = 2
        · subst t2
          have ef := Lib.hid (show fitN 2 (numF r0).1 = bits .and .i64 (numF r0).1 1 by rfl)
          have eg := Lib.hid (ev2.out.trans (by rw [ef.out]))
          clear ev2 ef
          go_wp2
          exact bodyPost_ret (v := .agg #[.bool false, .int .i64 (bits .and .i64 (numF r0).1 1), .string ⟨#[]⟩]) (by simp [results, Try.results60, go_sem, *]) rfl (by rw [eg.out]; exact ⟨rfl, by repeat (first | with_reducible exact Moved.refl _ _ | with_reducible assumption | with_reducible refine Moved.al ?_ _ | with_reducible refine Moved.onE ?_ _ | with_reducible refine Moved.on ?_ _ | with_reducible refine Moved.st ?_ _ _ _ | with_reducible refine Moved.stn ?_ (by first | assumption | (simp; done) | (simp; omega)) _ | with_reducible refine Moved.drew ?_), ((hs3.stn (by simp; omega) _).stn (by simp; omega) _).stn (by simp; omega) _⟩)
        by_cases t4 : ty = 4
        · subst t4
          have ef := Lib.hid (show fitN 4 (numF r0).1 = (numF r0).1.tmod 700000 by rfl)
          have eg := Lib.hid (ev2.out.trans (by rw [ef.out]))
          clear ev2 ef
          go_wp2
          exact bodyPost_ret (v := .agg #[.bool false, .int .i64 ((numF r0).1.tmod 700000), .string ⟨#[]⟩]) (by simp [results, Try.results60, go_sem, *]) rfl (by rw [eg.out]; exact ⟨rfl, by repeat (first | with_reducible exact Moved.refl _ _ | with_reducible assumption | with_reducible refine Moved.al ?_ _ | with_reducible refine Moved.onE ?_ _ | with_reducible refine Moved.on ?_ _ | with_reducible refine Moved.st ?_ _ _ _ | with_reducible refine Moved.stn ?_ (by first | assumption | (simp; done) | (simp; omega)) _ | with_reducible refine Moved.drew ?_), ((hs3.stn (by simp; omega) _).stn (by simp; omega) _).stn (by simp; omega) _⟩)
        by_cases t5 : ty = 5
        · subst t5
          have ef := Lib.hid (show fitN 5 (numF r0).1 = (numF r0).1.tmod 1000000000000000000 by rfl)
          have eg := Lib.hid (ev2.out.trans (by rw [ef.out]))
          clear ev2 ef
          go_wp2
          exact bodyPost_ret (v := .agg #[.bool false, .int .i64 ((numF r0).1.tmod 1000000000000000000), .string ⟨#[]⟩]) (by simp [results, Try.results60, go_sem, *]) rfl (by rw [eg.out]; exact ⟨rfl, by repeat (first | with_reducible exact Moved.refl _ _ | with_reducible assumption | with_reducible refine Moved.al ?_ _ | with_reducible refine Moved.onE ?_ _ | with_reducible refine Moved.on ?_ _ | with_reducible refine Moved.st ?_ _ _ _ | with_reducible refine Moved.stn ?_ (by first | assumption | (simp; done) | (simp; omega)) _ | with_reducible refine Moved.drew ?_), ((hs3.stn (by simp; omega) _).stn (by simp; omega) _).stn (by simp; omega) _⟩)
        · skip
          have ef := Lib.hid (show fitN ty (numF r0).1 = (numF r0).1 by simp [fitN, t2, t4, t5])
          have eg := Lib.hid (ev2.out.trans (by rw [ef.out]))
          clear ev2 ef
          go_wp2
          exact bodyPost_ret (v := .agg #[.bool false, .int .i64 ((numF r0).1), .string ⟨#[]⟩]) (by simp [results, Try.results60, go_sem, *]) rfl (by rw [eg.out]; exact ⟨rfl, by repeat (first | with_reducible exact Moved.refl _ _ | with_reducible assumption | with_reducible refine Moved.al ?_ _ | with_reducible refine Moved.onE ?_ _ | with_reducible refine Moved.on ?_ _ | with_reducible refine Moved.st ?_ _ _ _ | with_reducible refine Moved.stn ?_ (by first | assumption | (simp; done) | (simp; omega)) _ | with_reducible refine Moved.drew ?_), ((hs3.stn (by simp; omega) _).stn (by simp; omega) _).stn (by simp; omega) _⟩)
  · have hz2 : ¬ (nextF 4 r).1 = 0 := hz
    have hr2 := Lib.hid (show (nextF 4 r).2 = r0 from hr0)
    clear hz hr0
    go_enter Try.func60, Try.ntmps60
    go_upto_region 3 with (go_at_call 37; refine (next_any sb r 4 (by decide) (by decide) _ ((h.al _).al _)).mono ?_; rintro e w1 ⟨rfl, hm, hs0⟩; obtain ⟨y0, rfl⟩ := ExtM.of hm)
    clear hm
    rw [hr2.out] at hs0
    go_upto_region 4 with (go_at_call 37; refine (next_any sb r0 7 (by decide) (by decide) _ hs0).mono ?_; rintro e w1 ⟨rfl, hm1, hs1⟩; obtain ⟨y1, rfl⟩ := y0.to hm1)
    clear hs0 hm1
    go_upto_block 0 with (go_at_call 37; refine (next_any sb (nextF 7 r0).2 8 (by decide) (by decide) _ hs1).mono ?_; rintro e w2 ⟨rfl, hm2, hs2⟩; obtain ⟨y2, rfl⟩ := y1.to hm2)
    clear hs1 hm2
    go_cut [5, 20] (fun s5 s20 wx => s5 = .int .i64 (numF r0).1 ∧ (∃ y : ExtM ((w.alloc (.cells #[.string n1, .int .i64 ty, .int .i64 sc, .bool true] 76)).alloc (.cells #[.bool false, .int .i64 0, .string ⟨#[]⟩] 37)) sb, wx = y.it) ∧ SrcAt wx sb (numF r0).2)
    case first =>
      clear ev
      by_cases b0 : (nextF 8 (nextF 7 r0).2).1 = 0
      · have en := Lib.hid (show numF r0 = rawF (nextF 8 (nextF 7 r0).2).2 by simp [numF, b0])
        go_wp2_with (go_at_call 38; refine (raw_any sb (nextF 8 (nextF 7 r0).2).2 _ hs2).mono ?_; rintro e w3 ⟨rfl, hm3, hs3⟩; obtain ⟨y3, rfl⟩ := y2.to hm3)
        go_meet
        rw [en.out]
        exact ⟨rfl, ⟨_, rfl⟩, hs3⟩
      · by_cases b1 : (nextF 8 (nextF 7 r0).2).1 = 1
        · have en := Lib.hid (show numF r0 = ((rawF (nextF 8 (nextF 7 r0).2).2).1.tmod 1000, (rawF (nextF 8 (nextF 7 r0).2).2).2) by simp [numF, b1])
          clear b0
          go_wp2_with (go_at_call 38; refine (raw_any sb (nextF 8 (nextF 7 r0).2).2 _ hs2).mono ?_; rintro e w3 ⟨rfl, hm3, hs3⟩; obtain ⟨y3, rfl⟩ := y2.to hm3)
          go_meet
          rw [en.out]
          exact ⟨rfl, ⟨_, rfl⟩, hs3⟩
        · have en := Lib.hid (show numF r0 = (wrap64 ((nextF 7 r0).1 - 2), (nextF 8 (nextF 7 r0).2).2) by simp [numF, b0, b1])
          go_wp2
          go_meet
          rw [en.out]
          exact ⟨rfl, ⟨_, rfl⟩, hs2⟩
    case rest => 
      obtain ⟨rfl, ⟨y, rfl⟩, hs3⟩ := hcut
      clear hs2 y0 y1 y2
      by_cases t3 : ty = 3
      · subst t3
        have ev2 := Lib.hid (ev.out.trans (if_pos rfl))
        clear ev
        go_wp2_with (go_at_call 37; refine (next_any sb (numF r0).2 4 (by decide) (by decide) _ hs3).mono ?_; rintro e w4 ⟨rfl, hm4, hs4⟩; obtain ⟨y4, rfl⟩ := y.to hm4)
        have kb := nextF_bd (numF r0).2 (n := 4) (by decide)
        have kt := Lib.hid (show ((nextF 4 (numF r0).2).1.toNat : Int) = (nextF 4 (numF r0).2).1 by omega)
        generalize hZ : strF (nextF 4 (numF r0).2).1.toNat ⟨#[]⟩ (nextF 4 (numF r0).2).2 = Z at ev2
        have HZ := Lib.hid hZ
        have KB := Lib.hid kb
        clear hZ kb hm4 hs3
        go_loopg [6, 7] (nextF 4 (numF r0).2).1.toNat (fun g s t wr => ∃ st rs, st.size + g ≤ 3 ∧ s = .string st ∧ t = .int .i64 g ∧ strF g st rs = Z ∧ (∃ y : ExtM ((w.alloc (.cells #[.string n1, .int .i64 3, .int .i64 sc, .bool true] 76)).alloc (.cells #[.bool false, .int .i64 0, .string ⟨#[]⟩] 37)) sb, wr = y.it) ∧ SrcAt wr sb rs)
        case atStart => exact ⟨_, _, by have := KB.out.2; simp [ByteArray.size]; omega, rfl, by rw [kt.out], HZ.out, ⟨_, rfl⟩, hs4⟩
        case round =>
          obtain ⟨st, rs, hsz, rfl, rfl, hst, ⟨y5, rfl⟩, hs5⟩ := hrel
          clear HZ kt KB hs4 y4 y
          have HS := Lib.hid hst
          clear hst
          by_cases hg0 : gk = 0
          · subst hg0
            go_wp2
            exact bodyPost_ret (v := .agg #[.bool false, .int .i64 0, .string st]) (by simp [results, Try.results60, go_sem, *]) rfl (by rw [ev2.out]; obtain ⟨rfl, rfl⟩ := (show (Z.1 = st ∧ Z.2 = rs) from (HS.out ▸ ⟨rfl, rfl⟩)); exact ⟨rfl, by repeat (first | with_reducible exact Moved.refl _ _ | with_reducible assumption | with_reducible refine Moved.al ?_ _ | with_reducible refine Moved.onE ?_ _ | with_reducible refine Moved.on ?_ _ | with_reducible refine Moved.st ?_ _ _ _ | with_reducible refine Moved.stn ?_ (by first | assumption | (simp; done) | (simp; omega)) _ | with_reducible refine Moved.drew ?_), ((hs5.stn (by simp; omega) _).stn (by simp; omega) _).stn (by simp; omega) _⟩)
          · have hg1 : (0 : Int) < gk := by omega
            have hcv : ∀ (w0 : World) (x : Int), (convert 111 9 (.slice (some ⟨w0.heap.size, 0, none⟩) 1 1)).run Try.prog (w0.alloc (.cells #[.int .u8 x] 5)) = .ok (.string ⟨#[UInt8.ofNat x.toNat]⟩) (w0.alloc (.cells #[.int .u8 x] 5)) := fun w0 x => run_str_one (e := 5) w0 x (by kernel_rfl) (by kernel_rfl) (by kernel_rfl)
            have hsu : ∀ u : ByteArray, u.size = 1 → ¬ (9223372036854775807 < st.size + u.size) := by intro u hu; omega
            go_wp2_with (go_at_call 37; refine (next_any sb rs 3 (by decide) (by decide) _ hs5).mono ?_; rintro e w6 ⟨rfl, hm6, hs6⟩; obtain ⟨y6, rfl⟩ := y5.to hm6)
            go_roundg (gk - 1)
            case measure => omega
            case rel =>
              obtain ⟨g1, rfl⟩ : ∃ g1, gk = g1 + 1 := ⟨gk - 1, by omega⟩
              refine ⟨_, _, ?_, rfl, by go_num, HS.out, (y6.moved.al _ |> fun h => ExtM.of h), hs6.al _⟩
              rw [ByteArray.size_append]; show st.size + 1 + (g1 + 1 - 1) ≤ 3; omega
      · have ev2 := Lib.hid (ev.out.trans (if_neg t3))
        clear ev
        by_cases t2 : ty = 2
        · subst t2
          have ef := Lib.hid (show fitN 2 (numF r0).1 = bits .and .i64 (numF r0).1 1 by rfl)
          have eg := Lib.hid (ev2.out.trans (by rw [ef.out]))
          clear ev2 ef
          go_wp2
          exact bodyPost_ret (v := .agg #[.bool false, .int .i64 (bits .and .i64 (numF r0).1 1), .string ⟨#[]⟩]) (by simp [results, Try.results60, go_sem, *]) rfl (by rw [eg.out]; exact ⟨rfl, by repeat (first | with_reducible exact Moved.refl _ _ | with_reducible assumption | with_reducible refine Moved.al ?_ _ | with_reducible refine Moved.onE ?_ _ | with_reducible refine Moved.on ?_ _ | with_reducible refine Moved.st ?_ _ _ _ | with_reducible refine Moved.stn ?_ (by first | assumption | (simp; done) | (simp; omega)) _ | with_reducible refine Moved.drew ?_), ((hs3.stn (by simp; omega) _).stn (by simp; omega) _).stn (by simp; omega) _⟩)
        by_cases t4 : ty = 4
        · subst t4
          have ef := Lib.hid (show fitN 4 (numF r0).1 = (numF r0).1.tmod 700000 by rfl)
          have eg := Lib.hid (ev2.out.trans (by rw [ef.out]))
          clear ev2 ef
          go_wp2
          exact bodyPost_ret (v := .agg #[.bool false, .int .i64 ((numF r0).1.tmod 700000), .string ⟨#[]⟩]) (by simp [results, Try.results60, go_sem, *]) rfl (by rw [eg.out]; exact ⟨rfl, by repeat (first | with_reducible exact Moved.refl _ _ | with_reducible assumption | with_reducible refine Moved.al ?_ _ | with_reducible refine Moved.onE ?_ _ | with_reducible refine Moved.on ?_ _ | with_reducible refine Moved.st ?_ _ _ _ | with_reducible refine Moved.stn ?_ (by first | assumption | (simp; done) | (simp; omega)) _ | with_reducible refine Moved.drew ?_), ((hs3.stn (by simp; omega) _).stn (by simp; omega) _).stn (by simp; omega) _⟩)
        by_cases t5 : ty = 5
        · subst t5
          have ef := Lib.hid (show fitN 5 (numF r0).1 = (numF r0).1.tmod 1000000000000000000 by rfl)
          have eg := Lib.hid (ev2.out.trans (by rw [ef.out]))
          clear ev2 ef
          go_wp2
          exact bodyPost_ret (v := .agg #[.bool false, .int .i64 ((numF r0).1.tmod 1000000000000000000), .string ⟨#[]⟩]) (by simp [results, Try.results60, go_sem, *]) rfl (by rw [eg.out]; exact ⟨rfl, by repeat (first | with_reducible exact Moved.refl _ _ | with_reducible assumption | with_reducible refine Moved.al ?_ _ | with_reducible refine Moved.onE ?_ _ | with_reducible refine Moved.on ?_ _ | with_reducible refine Moved.st ?_ _ _ _ | with_reducible refine Moved.stn ?_ (by first | assumption | (simp; done) | (simp; omega)) _ | with_reducible refine Moved.drew ?_), ((hs3.stn (by simp; omega) _).stn (by simp; omega) _).stn (by simp; omega) _⟩)
        · skip
          have ef := Lib.hid (show fitN ty (numF r0).1 = (numF r0).1 by simp [fitN, t2, t4, t5])
          have eg := Lib.hid (ev2.out.trans (by rw [ef.out]))
          clear ev2 ef
          go_wp2
          exact bodyPost_ret (v := .agg #[.bool false, .int .i64 ((numF r0).1), .string ⟨#[]⟩]) (by simp [results, Try.results60, go_sem, *]) rfl (by rw [eg.out]; exact ⟨rfl, by repeat (first | with_reducible exact Moved.refl _ _ | with_reducible assumption | with_reducible refine Moved.al ?_ _ | with_reducible refine Moved.onE ?_ _ | with_reducible refine Moved.on ?_ _ | with_reducible refine Moved.st ?_ _ _ _ | with_reducible refine Moved.stn ?_ (by first | assumption | (simp; done) | (simp; omega)) _ | with_reducible refine Moved.drew ?_), ((hs3.stn (by simp; omega) _).stn (by simp; omega) _).stn (by simp; omega) _⟩)
end Go.Proofs.Ytgooffpmiilicaa
