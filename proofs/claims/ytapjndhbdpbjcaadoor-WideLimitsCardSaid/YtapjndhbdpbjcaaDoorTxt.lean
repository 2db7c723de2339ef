/-
  WIDE's TEXTS: wide.Parse and micropartref13.ParseWide of whatever text, FormatWide of whatever number. Conditions: none beyond those of a string and a Wide.
-/
import Derived.Test.YtapjndhbdpbjcaaDoorPaw
import Derived.Test.YtapjndhbdpbjcaaDoorPwp
import Derived.Test.YtapjndhbdpbjcaaDoorPwn
import Derived.Test.YtapjndhbdpbjcaaDoorFwp
import Derived.Test.YtapjndhbdpbjcaaDoorFwn
set_option linter.unusedVariables false
set_option linter.unusedSimpArgs false
namespace Go.Proofs.YtapjndhbdpbjcaaDoor
open Go.RowKit Go.Shelf
def parseB (s : ByteArray) : Int × Int × Int := match s.data.toList with
  | [] => parseF false []
  | b :: t => if b = 45 then parseF true t else parseF false (b :: t)
theorem bytes_cases (s : ByteArray) : (∃ t : List UInt8, s = ⟨(45 :: t).toArray⟩ ∧ parseB s = parseF true t ∧ s.size = t.length + 1) ∨ (∃ t : List UInt8, s = ⟨t.toArray⟩ ∧ t.head? ≠ some 45 ∧ parseB s = parseF false t ∧ s.size = t.length) := by
  have e : s = ⟨s.data.toList.toArray⟩ := by ext1; simp
  have z : s.size = s.data.toList.length := by rw [Array.length_toList]; rfl
  unfold parseB
  cases h : s.data.toList with
  | nil => rw [h] at e z; exact .inr ⟨[], e, by simp, rfl, z⟩
  | cons b t =>
    rw [h] at e z
    by_cases hb : b = 45
    · subst hb; exact .inl ⟨t, e, by simp, by simpa using z⟩
    · exact .inr ⟨b :: t, e, by simpa using hb, by simp [hb], z⟩
theorem par_any (s : ByteArray) (hs : s.size ≤ 9223372036854775807) (w : World) :
    Calls Tryd.prog 6 #[.string s] w fun e w' => e = .returned (.tuple #[.agg #[.int .i64 (parseB s).1, .int .u64 (parseB s).2.1], .int .i64 (parseB s).2.2]) ∧ Below w.heap.size w w' := by
  rcases bytes_cases s with ⟨t, e, p, z⟩ | ⟨t, e, h, p, z⟩
  · rw [p, e]; exact par_true t (by omega) w
  · rw [p, e]; exact par_false t h (by omega) w
theorem refpar_any (s : ByteArray) (hs : s.size ≤ 9223372036854775807) (w : World) :
    Calls Tryd.prog 7 #[.string s] w fun e w' => e = .returned (.tuple #[.agg #[.int .i64 (parseB s).1, .int .u64 (parseB s).2.1], .int .i64 (parseB s).2.2]) ∧ Below w.heap.size w w' := by
  rcases bytes_cases s with ⟨t, e, p, z⟩ | ⟨t, e, h, p, z⟩
  · rw [p, e]; exact refpar_true t (by omega) w
  · rw [p, e]; exact refpar_false t h (by omega) w
theorem reffmt_any (h l : Int) (a : isI h) (b : isU l) (w : World) :
    Calls Tryd.prog 10 #[.agg #[.int .i64 h, .int .u64 l]] w fun e w' => e = .returned (.string (sgnTxt h ++ fmtTxt (absN h l))) ∧ Below w.heap.size w w' := by
  by_cases c : 0 ≤ h
  · exact reffmt_pos h l a b c w
  · exact reffmt_neg h l a b c w
def Ext.up {W : World} (x : Ext W) (y : Ext x.it) : Ext W := ⟨y.it, Below.on x.below y⟩
def pickI (v n : Int) : Int := v % 18446744073709551616 % n
theorem pickI_bd (v : Int) {n : Int} (h : 0 < n) : 0 ≤ pickI v n ∧ pickI v n < n := ⟨Int.emod_nonneg _ (by omega), Int.emod_lt_of_pos _ h⟩
theorem pick_eq (v n : Int) (h0 : 0 < n) (h1 : n < 9223372036854775808) : wrap64 ((IntKind.u64.wrap v).tmod n) = pickI v n := by
  have e : ∀ x : Int, IntKind.u64.wrap x = x % 18446744073709551616 := fun x => by simp [IntKind.wrap, IntKind.bits, IntKind.signed]
  have b := pickI_bd v h0
  unfold pickI at b ⊢
  rw [e, Int.tmod_eq_emod_of_nonneg (by omega)]
  unfold wrap64
  omega
set_option maxHeartbeats 400000 in
theorem pick_any (v n : Int) (h0 : 0 < n) (h1 : n < 9223372036854775808) (w : World) :
    Calls Tryd.prog 11 #[.int .i64 v, .int .i64 n] w fun e w' => e = .returned (.int .i64 (pickI v n)) ∧ w = w' := by
  have e0 : IntKind.u64.wrap n = n := by simp [IntKind.wrap, IntKind.bits, IntKind.signed]; omega
  have e1 := pick_eq v n h0 h1
  go_enter Tryd.func11, Tryd.ntmps11
  go_wp2
  go_ret
  exact ⟨by rw [← e1]; rfl, rfl⟩
def isB (z : Int) : Prop := 0 ≤ z ∧ z < 256
def U8At (w : World) (B : Nat) (v : Value) (zs : List Int) : Prop :=
  (∀ z ∈ zs, isB z) ∧ zs.length ≤ 9223372036854775807 ∧
    ((zs = [] ∧ ∃ a c, v = .slice a 0 c) ∨ ∃ b o c, v = .slice (some ⟨b, o, none⟩) zs.length c ∧ b < B ∧ ∀ j, j < zs.length → w.cell? ⟨b, o + j, none⟩ = some (.int .u8 (zs.getD j 0)))
theorem u8_end {w : World} {B : Nat} {v : Value} {zs : List Int} (h : U8At w B v zs) : ∃ a c, v = .slice a zs.length c := by
  rcases h.2.2 with ⟨e, a, c, rfl⟩ | ⟨b, o, c, rfl, _⟩
  · exact ⟨a, c, by rw [e]; rfl⟩
  · exact ⟨_, c, rfl⟩
theorem u8_in {w : World} {B : Nat} {v : Value} {zs : List Int} (h : U8At w B v zs) {i : Nat} (hi : i < zs.length) : ∃ b o c z, v = .slice (some ⟨b, o, none⟩) zs.length c ∧ b < B ∧ isB z ∧ w.cell? ⟨b, o + i, none⟩ = some (.int .u8 z) := by
  rcases h.2.2 with ⟨e, _⟩ | ⟨b, o, c, hv, hb, hc⟩
  · rw [e] at hi; simp at hi
  · refine ⟨b, o, c, zs.getD i 0, hv, hb, h.1 _ ?_, hc i hi⟩
    rw [List.getD_eq_getElem?_getD, List.getElem?_eq_getElem hi]; exact List.getElem_mem hi
end Go.Proofs.YtapjndhbdpbjcaaDoor
