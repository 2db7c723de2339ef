/-
  NAMES: schema.Name and micropartref6.Name of whatever text: 'nameF'. Conditions: none.
-/
import Derived.Test.YtkblkjfejaflkaaVal
import Derived.Deep.LoopGhost
import Derived.Deep.CutBlock
import Derived.Deep.CutRange
import Derived.Lib.Hide
set_option linter.unusedVariables false
set_option linter.unusedSimpArgs false
namespace Go.Proofs.Ytkblkjfejaflkaa
open Go.RowKit
def azB (c : UInt8) : Bool := decide (97 ≤ c.toNat) && decide (c.toNat ≤ 122)
def okB (c : UInt8) : Bool := azB c || (decide (48 ≤ c.toNat) && decide (c.toNat ≤ 57)) || decide (c.toNat = 95)
def nameF (l : List UInt8) : Bool := match l with
  | [] => false
  | a :: r => azB a && decide ((a :: r).length ≤ 16) && !((a :: r) == [107, 101, 121]) && (a :: r).all okB
theorem nameF_ok {l : List UInt8} (h : l.all okB = false) : nameF l = false := by
  cases l with
  | nil => rfl
  | cons a r => simp only [nameF, h, Bool.and_false]
theorem all_bad {l : List UInt8} {k : Nat} (h : k < l.length) (hb : okB (l[k]'h) = false) : l.all okB = false := by
  rw [← Bool.not_eq_true, List.all_eq_true]; intro hh; rw [hh _ (List.getElem_mem h)] at hb; cases hb
theorem all_good {l : List UInt8} (h : ∀ k (h : k < l.length), okB (l[k]'h) = true) : l.all okB = true := List.all_eq_true.2 fun x hx => by obtain ⟨k, hk, rfl⟩ := List.getElem_of_mem hx; exact h k hk
set_option maxRecDepth 8000 in
set_option maxHeartbeats 2000000 in
theorem name_any (S : ByteArray) (w : World) : Calls Try.prog 67 #[.string S] w fun e w' => e = .returned (.bool (nameF S.toList)) ∧ Below w.heap.size w w' := by
  obtain ⟨n, hn⟩ : ∃ n, S.size = n := ⟨_, rfl⟩
  obtain ⟨l, hl⟩ : ∃ l, S.toList = l := ⟨_, rfl⟩
  have ll : l.length = n := by rw [← hl, ByteArray.toList_eq, Array.length_toList]; exact hn
  have TB : ∀ k (h : k < S.size) (h' : k < l.length), S[k]'h = l[k]'(h') := by intro k h h'; subst hl; simp [ByteArray.toList_eq]; rfl
  rw [hl]
  cases l with
  | nil =>
    obtain rfl : 0 = n := ll
    have NF := Lib.hid (show nameF [] = false from rfl)
    have ie : S.toList.isEmpty = true := by rw [hl]; rfl
    clear TB
    go_enter Try.func67, Try.ntmps67
    go_wp2
    exact bodyPost_ret (v := .bool false) (by simp [results, Try.results67, go_sem, *]) rfl (⟨by rw [NF.out], by repeat (first | with_reducible exact Below.refl _ _ | with_reducible assumption)⟩)
  | cons a r =>
    have ie : S.toList.isEmpty = false := by rw [hl]; rfl
    have n0 : 0 < n := by rw [← ll]; simp
    have n0' : ¬ (n : Int) < 1 := by omega
    have n0'' : ¬ n = 0 := by omega
    have ta : ∀ h : 0 < S.size, S[0]'h = a := fun h => TB 0 h (by simp)
    by_cases h16 : 16 < n
    · have NF := Lib.hid (show nameF (a :: r) = false by simp only [nameF]; rw [decide_eq_false (by omega)]; simp)
      have h16' : (16 : Int) < (n : Int) := by omega
      clear TB hl ll
      go_enter Try.func67, Try.ntmps67
      go_wp2
      exact bodyPost_ret (v := .bool false) (by simp [results, Try.results67, go_sem, *]) rfl (⟨by rw [NF.out], by repeat (first | with_reducible exact Below.refl _ _ | with_reducible assumption)⟩)
    have h16' : ¬ (16 : Int) < (n : Int) := by omega
    by_cases a1 : a.toNat < 97
    · have NF := Lib.hid (show nameF (a :: r) = false by simp only [nameF, azB]; rw [decide_eq_false (by omega)]; simp)
      have a1' : (a.toNat : Int) < 97 := by omega
      clear TB hl ll
      go_enter Try.func67, Try.ntmps67
      go_wp2
      exact bodyPost_ret (v := .bool false) (by simp [results, Try.results67, go_sem, *]) rfl (⟨by rw [NF.out], by repeat (first | with_reducible exact Below.refl _ _ | with_reducible assumption)⟩)
    have a1' : ¬ (a.toNat : Int) < 97 := by omega
    by_cases a2 : 122 < a.toNat
    · have NF := Lib.hid (show nameF (a :: r) = false by simp only [nameF, azB]; rw [decide_eq_false (by omega : ¬ a.toNat ≤ 122)]; simp)
      have a2' : (122 : Int) < (a.toNat : Int) := by omega
      clear TB hl ll
      go_enter Try.func67, Try.ntmps67
      go_wp2
      exact bodyPost_ret (v := .bool false) (by simp [results, Try.results67, go_sem, *]) rfl (⟨by rw [NF.out], by repeat (first | with_reducible exact Below.refl _ _ | with_reducible assumption)⟩)
    have a2' : ¬ (122 : Int) < (a.toNat : Int) := by omega
    by_cases hk : (a :: r) = [107, 101, 121]
    · have NF := Lib.hid (show nameF (a :: r) = false by rw [hk]; rfl)
      have hk' : (S.toList == [107, 101, 121]) = true := by rw [hl, hk]; rfl
      clear TB hk ll hl
      go_enter Try.func67, Try.ntmps67
      go_wp2
      exact bodyPost_ret (v := .bool false) (by simp [results, Try.results67, go_sem, *]) rfl (⟨by rw [NF.out], by repeat (first | with_reducible exact Below.refl _ _ | with_reducible assumption)⟩)
    have hk' : (S.toList == [107, 101, 121]) = false := by rw [hl]; simpa using hk
    have TB' := Lib.hid TB
    have HL := Lib.hid ll
    have KK := Lib.hid hk
    have AA := Lib.hid (And.intro h16 (And.intro a1 a2))
    have BAD : Hid (∀ k (h : k < (a :: r).length), okB ((a :: r)[k]'h) = false → nameF (a :: r) = false) := Lib.hid fun k h hb => nameF_ok (all_bad h hb)
    clear TB hk ll hl a1 a2
    go_enter Try.func67, Try.ntmps67
    go_wp2_with fail
    go_loopg [28] n (fun g s wr => ∃ k : Nat, k + g = n ∧ s = .int .i64 (k : Int) ∧ (∀ i (h : i < (a :: r).length), i < k → okB ((a :: r)[i]'h) = true) ∧ w = wr)
    case atStart => exact ⟨0, by omega, rfl, (fun i _ h => absurd h (by omega)), rfl⟩
    case round =>
      obtain ⟨k, hk, rfl, hdk, rfl⟩ := hrel
      by_cases hg0 : gk = 0
      · subst hg0
        obtain rfl : k = n := by omega
        have hall : (a :: r).all okB = true := all_good fun i h => hdk i h (by rw [← HL.out]; exact h)
        have NF := Lib.hid (show nameF (a :: r) = true by
          simp only [nameF]
          rw [hall, show azB a = true from by unfold azB; rw [decide_eq_true (by have := AA.out.2.1; omega), decide_eq_true (by have := AA.out.2.2; omega)]; rfl, decide_eq_true (by have := HL.out; omega), show ((a :: r) == [107, 101, 121]) = false from by simpa using KK.out]; rfl)
        clear hdk hall hk
        go_wp2
        exact bodyPost_ret (v := .bool true) (by simp [results, Try.results67, go_sem, *]) rfl (⟨by rw [NF.out], by repeat (first | with_reducible exact Below.refl _ _ | with_reducible assumption)⟩)
      · have hkn : k < n := by omega
        have hkn' : (k : Int) < n := by omega
        have hkl : k < (a :: r).length := by rw [HL.out]; exact hkn
        obtain ⟨c, hc⟩ : ∃ c, (a :: r)[k]'hkl = c := ⟨_, rfl⟩
        have tc : ∀ h : k < S.size, S[k]'h = c := fun h => (TB'.out k h hkl).trans hc
        have HK := Lib.hid hk
        have HD := Lib.hid hdk
        have HC := Lib.hid hc
        have CW : (97 ≤ c.toNat ∧ c.toNat ≤ 122) ∨ c.toNat < 48 ∨ (48 ≤ c.toNat ∧ c.toNat ≤ 57) ∨ c.toNat = 95 ∨ (57 < c.toNat ∧ c.toNat < 97 ∧ ¬ c.toNat = 95) ∨ 122 < c.toNat := by omega
        clear hk hdk hc
        rcases CW with q | q | q | q | q | q
        · have q0 : ¬ (c.toNat : Int) < 97 := by omega
          have q1 : ¬ (122 : Int) < (c.toNat : Int) := by omega
          have q2 : (97 : Int) ≤ (c.toNat : Int) := by omega
          have q3 : (c.toNat : Int) ≤ 122 := by omega
          have okc : okB c = true := by unfold okB azB; simp; omega
          have OK := Lib.hid okc
          clear q hg0 okc
          go_wp2
          go_roundg (gk - 1)
          case measure => have := HK.out; omega
          case rel => exact ⟨k + 1, by have := HK.out; omega, by go_num, (fun i h hi => by rcases Nat.lt_or_ge i k with q | q; exact HD.out i h q; obtain rfl : i = k := (by omega); rw [HC.out]; exact OK.out), rfl⟩
        · have q0 : (c.toNat : Int) < 97 := by omega
          have q1 : (c.toNat : Int) < 48 := by omega
          have q2 : ¬ (97 : Int) ≤ (c.toNat : Int) := by omega
          have q3 : ¬ (c.toNat : Int) = 95 := by omega
          have e3 : ((c.toNat : Int) != 95) = true := by simpa using q3
          have okc : okB c = false := by unfold okB azB; simp; omega
          have NF := Lib.hid (BAD.out _ hkl (by rw [HC.out]; exact okc))
          clear q hg0 okc
          go_wp2
          exact bodyPost_ret (v := .bool false) (by simp [results, Try.results67, go_sem, *]) rfl (⟨by rw [NF.out], by repeat (first | with_reducible exact Below.refl _ _ | with_reducible assumption)⟩)
        · have q0 : (c.toNat : Int) < 97 := by omega
          have q1 : ¬ (c.toNat : Int) < 48 := by omega
          have q2 : ¬ (57 : Int) < (c.toNat : Int) := by omega
          have q3 : ¬ (97 : Int) ≤ (c.toNat : Int) := by omega
          have q4 : ¬ (c.toNat : Int) = 95 := by omega
          have e4 : ((c.toNat : Int) != 95) = true := by simpa using q4
          have okc : okB c = true := by unfold okB azB; simp; omega
          have OK := Lib.hid okc
          clear q hg0 okc
          go_wp2
          go_roundg (gk - 1)
          case measure => have := HK.out; omega
          case rel => exact ⟨k + 1, by have := HK.out; omega, by go_num, (fun i h hi => by rcases Nat.lt_or_ge i k with q | q; exact HD.out i h q; obtain rfl : i = k := (by omega); rw [HC.out]; exact OK.out), rfl⟩
        · have q0 : (c.toNat : Int) < 97 := by omega
          have q1 : ¬ (c.toNat : Int) < 48 := by omega
          have q2 : (57 : Int) < (c.toNat : Int) := by omega
          have q3 : (c.toNat : Int) = 95 := by omega
          have e3 : ((c.toNat : Int) != 95) = false := by simpa using q3
          have q4 : ¬ (97 : Int) ≤ (c.toNat : Int) := by omega
          have okc : okB c = true := by unfold okB azB; simp; omega
          have OK := Lib.hid okc
          clear q hg0 okc
          go_wp2
          go_roundg (gk - 1)
          case measure => have := HK.out; omega
          case rel => exact ⟨k + 1, by have := HK.out; omega, by go_num, (fun i h hi => by rcases Nat.lt_or_ge i k with q | q; exact HD.out i h q; obtain rfl : i = k := (by omega); rw [HC.out]; exact OK.out), rfl⟩
        · have q0 : (c.toNat : Int) < 97 := by omega
          have q1 : ¬ (c.toNat : Int) < 48 := by omega
          have q2 : (57 : Int) < (c.toNat : Int) := by omega
          have q3 : ¬ (c.toNat : Int) = 95 := by omega
          have e3 : ((c.toNat : Int) != 95) = true := by simpa using q3
          have q4 : ¬ (97 : Int) ≤ (c.toNat : Int) := by omega
          have okc : okB c = false := by unfold okB azB; simp; omega
          have NF := Lib.hid (BAD.out _ hkl (by rw [HC.out]; exact okc))
          clear q hg0 okc
          go_wp2
          exact bodyPost_ret (v := .bool false) (by simp [results, Try.results67, go_sem, *]) rfl (⟨by rw [NF.out], by repeat (first | with_reducible exact Below.refl _ _ | with_reducible assumption)⟩)
        · have q0 : ¬ (c.toNat : Int) < 97 := by omega
          have q1 : (122 : Int) < (c.toNat : Int) := by omega
          have q2 : ¬ (c.toNat : Int) < 48 := by omega
          have q3 : (57 : Int) < (c.toNat : Int) := by omega
          have q4 : ¬ (c.toNat : Int) = 95 := by omega
          have e4 : ((c.toNat : Int) != 95) = true := by simpa using q4
          have q5 : (97 : Int) ≤ (c.toNat : Int) := by omega
          have q6 : ¬ (c.toNat : Int) ≤ 122 := by omega
          have okc : okB c = false := by unfold okB azB; simp; omega
          have NF := Lib.hid (BAD.out _ hkl (by rw [HC.out]; exact okc))
          clear q hg0 okc
          go_wp2
          exact bodyPost_ret (v := .bool false) (by simp [results, Try.results67, go_sem, *]) rfl (⟨by rw [NF.out], by repeat (first | with_reducible exact Below.refl _ _ | with_reducible assumption)⟩)
set_option maxRecDepth 8000 in
set_option maxHeartbeats 2000000 in
theorem refName_any (S : ByteArray) (w : World) : Calls Try.prog 70 #[.string S] w fun e w' => e = .returned (.bool (nameF S.toList)) ∧ Below w.heap.size w w' := by
  obtain ⟨n, hn⟩ : ∃ n, S.size = n := ⟨_, rfl⟩
  obtain ⟨l, hl⟩ : ∃ l, S.toList = l := ⟨_, rfl⟩
  have ll : l.length = n := by rw [← hl, ByteArray.toList_eq, Array.length_toList]; exact hn
  have TB : ∀ k (h : k < S.size) (h' : k < l.length), S[k]'h = l[k]'(h') := by intro k h h'; subst hl; simp [ByteArray.toList_eq]; rfl
  rw [hl]
  cases l with
  | nil =>
    obtain rfl : 0 = n := ll
    have NF := Lib.hid (show nameF [] = false from rfl)
    have ie : S.toList.isEmpty = true := by rw [hl]; rfl
    clear TB
    go_enter Try.func70, Try.ntmps70
    go_wp2
    exact bodyPost_ret (v := .bool false) (by simp [results, Try.results70, go_sem, *]) rfl (⟨by rw [NF.out], by repeat (first | with_reducible exact Below.refl _ _ | with_reducible assumption)⟩)
  | cons a r =>
    have ie : S.toList.isEmpty = false := by rw [hl]; rfl
    have n0 : 0 < n := by rw [← ll]; simp
    have n0' : ¬ (n : Int) < 1 := by omega
    have n0'' : ¬ n = 0 := by omega
    skip
    by_cases h16 : 16 < n
    · have NF := Lib.hid (show nameF (a :: r) = false by simp only [nameF]; rw [decide_eq_false (by omega)]; simp)
      have h16' : (16 : Int) < (n : Int) := by omega
      clear TB hl ll
      go_enter Try.func70, Try.ntmps70
      go_wp2
      exact bodyPost_ret (v := .bool false) (by simp [results, Try.results70, go_sem, *]) rfl (⟨by rw [NF.out], by repeat (first | with_reducible exact Below.refl _ _ | with_reducible assumption)⟩)
    have h16' : ¬ (16 : Int) < (n : Int) := by omega
    by_cases hk : (a :: r) = [107, 101, 121]
    · have NF := Lib.hid (show nameF (a :: r) = false by rw [hk]; rfl)
      have hk' : (S.toList == [107, 101, 121]) = true := by rw [hl, hk]; rfl
      clear TB hk ll hl
      go_enter Try.func70, Try.ntmps70
      go_wp2
      exact bodyPost_ret (v := .bool false) (by simp [results, Try.results70, go_sem, *]) rfl (⟨by rw [NF.out], by repeat (first | with_reducible exact Below.refl _ _ | with_reducible assumption)⟩)
    have hk' : (S.toList == [107, 101, 121]) = false := by rw [hl]; simpa using hk
    have TB' := Lib.hid TB
    have HL := Lib.hid ll
    have KK := Lib.hid hk
    have AA := Lib.hid (And.intro h16 trivial)
    have BAD : Hid (∀ k (h : k < (a :: r).length), okB ((a :: r)[k]'h) = false → nameF (a :: r) = false) := Lib.hid fun k h hb => nameF_ok (all_bad h hb)
    clear TB hk ll hl 
    go_enter Try.func70, Try.ntmps70
    go_wp2_with fail
    go_loopg [3] n (fun g s wr => ∃ k : Nat, k + g = n ∧ s = .int .i64 (k : Int) ∧ (∀ i (h : i < (a :: r).length), i < k → okB ((a :: r)[i]'h) = true ∧ (i = 0 → azB ((a :: r)[i]'h) = true)) ∧ w = wr)
    case atStart => exact ⟨0, by omega, rfl, (fun i _ h => absurd h (by omega)), rfl⟩
    case round =>
      obtain ⟨k, hk, rfl, hdk, rfl⟩ := hrel
      by_cases hg0 : gk = 0
      · subst hg0
        obtain rfl : k = n := by omega
        have hall : (a :: r).all okB = true := all_good fun i h => (hdk i h (by rw [← HL.out]; exact h)).1
        have NF := Lib.hid (show nameF (a :: r) = true by
          simp only [nameF]
          rw [hall, show azB a = true from (hdk 0 (by simp) (by omega)).2 rfl, decide_eq_true (by have := HL.out; omega), show ((a :: r) == [107, 101, 121]) = false from by simpa using KK.out]; rfl)
        clear hdk hall hk
        go_wp2
        exact bodyPost_ret (v := .bool true) (by simp [results, Try.results70, go_sem, *]) rfl (⟨by rw [NF.out], by repeat (first | with_reducible exact Below.refl _ _ | with_reducible assumption)⟩)
      · have hkn : k < n := by omega
        have hkn' : (k : Int) < n := by omega
        have hkl : k < (a :: r).length := by rw [HL.out]; exact hkn
        obtain ⟨c, hc⟩ : ∃ c, (a :: r)[k]'hkl = c := ⟨_, rfl⟩
        have tc : ∀ h : k < S.size, S[k]'h = c := fun h => (TB'.out k h hkl).trans hc
        have HK := Lib.hid hk
        have HD := Lib.hid hdk
        have HC := Lib.hid hc
        have CW : (97 ≤ c.toNat ∧ c.toNat ≤ 122) ∨ c.toNat < 48 ∨ (48 ≤ c.toNat ∧ c.toNat ≤ 57) ∨ c.toNat = 95 ∨ (57 < c.toNat ∧ c.toNat < 97 ∧ ¬ c.toNat = 95) ∨ 122 < c.toNat := by omega
        clear hk hdk hc
        rcases CW with q | q | q | q | q | q
        · have q0 : ¬ (c.toNat : Int) < 97 := by omega
          have q1 : ¬ (122 : Int) < (c.toNat : Int) := by omega
          have q2 : (97 : Int) ≤ (c.toNat : Int) := by omega
          have q3 : (c.toNat : Int) ≤ 122 := by omega
          have okc : okB c = true := by unfold okB azB; simp; omega
          have OK := Lib.hid okc
          have AZ : Hid (k = 0 → azB c = true) := Lib.hid fun k0 => by unfold azB; simp; omega
          clear q hg0 okc
          go_wp2
          go_roundg (gk - 1)
          case measure => have := HK.out; omega
          case rel => exact ⟨k + 1, by have := HK.out; omega, by go_num, (fun i h hi => by rcases Nat.lt_or_ge i k with q | q; exact HD.out i h q; obtain rfl : i = k := (by omega); rw [HC.out]; exact ⟨OK.out, AZ.out⟩), rfl⟩
        · by_cases k0 : k = 0
          · have q0 : (c.toNat : Int) < 97 := by omega
            have q1 : (c.toNat : Int) < 48 := by omega
            have q2 : ¬ (97 : Int) ≤ (c.toNat : Int) := by omega
            have q3 : ¬ (c.toNat : Int) = 95 := by omega
            have e3 : ((c.toNat : Int) != 95) = true := by simpa using q3
            subst k0
            have okc : okB c = false := by unfold okB azB; simp; omega
            have NF := Lib.hid (BAD.out _ hkl (by rw [HC.out]; exact okc))
            clear q hg0 okc
            go_wp2
            exact bodyPost_ret (v := .bool false) (by simp [results, Try.results70, go_sem, *]) rfl (⟨by rw [NF.out], by repeat (first | with_reducible exact Below.refl _ _ | with_reducible assumption)⟩)
          · have q0 : (c.toNat : Int) < 97 := by omega
            have q1 : (c.toNat : Int) < 48 := by omega
            have q2 : ¬ (97 : Int) ≤ (c.toNat : Int) := by omega
            have q3 : ¬ (c.toNat : Int) = 95 := by omega
            have e3 : ((c.toNat : Int) != 95) = true := by simpa using q3
            have k0' : ((k : Int) == 0) = false := by simpa using k0
            have okc : okB c = false := by unfold okB azB; simp; omega
            have NF := Lib.hid (BAD.out _ hkl (by rw [HC.out]; exact okc))
            clear q hg0 okc
            go_wp2
            exact bodyPost_ret (v := .bool false) (by simp [results, Try.results70, go_sem, *]) rfl (⟨by rw [NF.out], by repeat (first | with_reducible exact Below.refl _ _ | with_reducible assumption)⟩)
        · by_cases k0 : k = 0
          · have q0 : (c.toNat : Int) < 97 := by omega
            have q1 : ¬ (c.toNat : Int) < 48 := by omega
            have q2 : ¬ (57 : Int) < (c.toNat : Int) := by omega
            have q3 : ¬ (97 : Int) ≤ (c.toNat : Int) := by omega
            have q4 : ¬ (c.toNat : Int) = 95 := by omega
            have e4 : ((c.toNat : Int) != 95) = true := by simpa using q4
            subst k0
            have NF := Lib.hid (show nameF (a :: r) = false by have e : a = c := by { have := HC.out; simpa using this }; simp only [nameF, azB]; rw [e]; simp; omega)
            clear q hg0
            go_wp2
            exact bodyPost_ret (v := .bool false) (by simp [results, Try.results70, go_sem, *]) rfl (⟨by rw [NF.out], by repeat (first | with_reducible exact Below.refl _ _ | with_reducible assumption)⟩)
          · have q0 : (c.toNat : Int) < 97 := by omega
            have q1 : ¬ (c.toNat : Int) < 48 := by omega
            have q2 : ¬ (57 : Int) < (c.toNat : Int) := by omega
            have q3 : ¬ (97 : Int) ≤ (c.toNat : Int) := by omega
            have q4 : ¬ (c.toNat : Int) = 95 := by omega
            have e4 : ((c.toNat : Int) != 95) = true := by simpa using q4
            have k0' : ((k : Int) == 0) = false := by simpa using k0
            have okc : okB c = true := by unfold okB azB; simp; omega
            have OK := Lib.hid okc
            have AZ : Hid (k = 0 → azB c = true) := Lib.hid fun k0 => by omega
            clear q hg0 okc
            go_wp2
            go_roundg (gk - 1)
            case measure => have := HK.out; omega
            case rel => exact ⟨k + 1, by have := HK.out; omega, by go_num, (fun i h hi => by rcases Nat.lt_or_ge i k with q | q; exact HD.out i h q; obtain rfl : i = k := (by omega); rw [HC.out]; exact ⟨OK.out, AZ.out⟩), rfl⟩
        · by_cases k0 : k = 0
          · have q0 : (c.toNat : Int) < 97 := by omega
            have q1 : ¬ (c.toNat : Int) < 48 := by omega
            have q2 : (57 : Int) < (c.toNat : Int) := by omega
            have q3 : (c.toNat : Int) = 95 := by omega
            have e3 : ((c.toNat : Int) != 95) = false := by simpa using q3
            have q4 : ¬ (97 : Int) ≤ (c.toNat : Int) := by omega
            subst k0
            have NF := Lib.hid (show nameF (a :: r) = false by have e : a = c := by { have := HC.out; simpa using this }; simp only [nameF, azB]; rw [e]; simp; omega)
            clear q hg0
            go_wp2
            exact bodyPost_ret (v := .bool false) (by simp [results, Try.results70, go_sem, *]) rfl (⟨by rw [NF.out], by repeat (first | with_reducible exact Below.refl _ _ | with_reducible assumption)⟩)
          · have q0 : (c.toNat : Int) < 97 := by omega
            have q1 : ¬ (c.toNat : Int) < 48 := by omega
            have q2 : (57 : Int) < (c.toNat : Int) := by omega
            have q3 : (c.toNat : Int) = 95 := by omega
            have e3 : ((c.toNat : Int) != 95) = false := by simpa using q3
            have q4 : ¬ (97 : Int) ≤ (c.toNat : Int) := by omega
            have k0' : ((k : Int) == 0) = false := by simpa using k0
            have okc : okB c = true := by unfold okB azB; simp; omega
            have OK := Lib.hid okc
            have AZ : Hid (k = 0 → azB c = true) := Lib.hid fun k0 => by omega
            clear q hg0 okc
            go_wp2
            go_roundg (gk - 1)
            case measure => have := HK.out; omega
            case rel => exact ⟨k + 1, by have := HK.out; omega, by go_num, (fun i h hi => by rcases Nat.lt_or_ge i k with q | q; exact HD.out i h q; obtain rfl : i = k := (by omega); rw [HC.out]; exact ⟨OK.out, AZ.out⟩), rfl⟩
        · by_cases k0 : k = 0
          · have q0 : (c.toNat : Int) < 97 := by omega
            have q1 : ¬ (c.toNat : Int) < 48 := by omega
            have q2 : (57 : Int) < (c.toNat : Int) := by omega
            have q3 : ¬ (c.toNat : Int) = 95 := by omega
            have e3 : ((c.toNat : Int) != 95) = true := by simpa using q3
            have q4 : ¬ (97 : Int) ≤ (c.toNat : Int) := by omega
            subst k0
            have okc : okB c = false := by unfold okB azB; simp; omega
            have NF := Lib.hid (BAD.out _ hkl (by rw [HC.out]; exact okc))
            clear q hg0 okc
            go_wp2
            exact bodyPost_ret (v := .bool false) (by simp [results, Try.results70, go_sem, *]) rfl (⟨by rw [NF.out], by repeat (first | with_reducible exact Below.refl _ _ | with_reducible assumption)⟩)
          · have q0 : (c.toNat : Int) < 97 := by omega
            have q1 : ¬ (c.toNat : Int) < 48 := by omega
            have q2 : (57 : Int) < (c.toNat : Int) := by omega
            have q3 : ¬ (c.toNat : Int) = 95 := by omega
            have e3 : ((c.toNat : Int) != 95) = true := by simpa using q3
            have q4 : ¬ (97 : Int) ≤ (c.toNat : Int) := by omega
            have k0' : ((k : Int) == 0) = false := by simpa using k0
            have okc : okB c = false := by unfold okB azB; simp; omega
            have NF := Lib.hid (BAD.out _ hkl (by rw [HC.out]; exact okc))
            clear q hg0 okc
            go_wp2
            exact bodyPost_ret (v := .bool false) (by simp [results, Try.results70, go_sem, *]) rfl (⟨by rw [NF.out], by repeat (first | with_reducible exact Below.refl _ _ | with_reducible assumption)⟩)
        · by_cases k0 : k = 0
          · have q0 : ¬ (c.toNat : Int) < 97 := by omega
            have q1 : (122 : Int) < (c.toNat : Int) := by omega
            have q2 : ¬ (c.toNat : Int) < 48 := by omega
            have q3 : (57 : Int) < (c.toNat : Int) := by omega
            have q4 : ¬ (c.toNat : Int) = 95 := by omega
            have e4 : ((c.toNat : Int) != 95) = true := by simpa using q4
            have q5 : (97 : Int) ≤ (c.toNat : Int) := by omega
            have q6 : ¬ (c.toNat : Int) ≤ 122 := by omega
            subst k0
            have okc : okB c = false := by unfold okB azB; simp; omega
            have NF := Lib.hid (BAD.out _ hkl (by rw [HC.out]; exact okc))
            clear q hg0 okc
            go_wp2
            exact bodyPost_ret (v := .bool false) (by simp [results, Try.results70, go_sem, *]) rfl (⟨by rw [NF.out], by repeat (first | with_reducible exact Below.refl _ _ | with_reducible assumption)⟩)
          · have q0 : ¬ (c.toNat : Int) < 97 := by omega
            have q1 : (122 : Int) < (c.toNat : Int) := by omega
            have q2 : ¬ (c.toNat : Int) < 48 := by omega
            have q3 : (57 : Int) < (c.toNat : Int) := by omega
            have q4 : ¬ (c.toNat : Int) = 95 := by omega
            have e4 : ((c.toNat : Int) != 95) = true := by simpa using q4
            have q5 : (97 : Int) ≤ (c.toNat : Int) := by omega
            have q6 : ¬ (c.toNat : Int) ≤ 122 := by omega
            have k0' : ((k : Int) == 0) = false := by simpa using k0
            have okc : okB c = false := by unfold okB azB; simp; omega
            have NF := Lib.hid (BAD.out _ hkl (by rw [HC.out]; exact okc))
            clear q hg0 okc
            go_wp2
            exact bodyPost_ret (v := .bool false) (by simp [results, Try.results70, go_sem, *]) rfl (⟨by rw [NF.out], by repeat (first | with_reducible exact Below.refl _ _ | with_reducible assumption)⟩)
end Go.Proofs.Ytkblkjfejaflkaa
