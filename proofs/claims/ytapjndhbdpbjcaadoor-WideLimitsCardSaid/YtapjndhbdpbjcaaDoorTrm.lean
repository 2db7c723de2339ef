/-
  (The layings of the shelf's contracts stand in plain words, as the kit's lay-plain.mjs wrote them for this translation.)
  strings.Trim at the ten digits, strings.CutPrefix at a minus sign, bits.Mul64 at ten. Conditions: the text's length is at most 2^63 - 1.
-/
import Derived.Test.YtapjndhbdpbjcaaDoorAwake
import Derived.Ground.NamesProg
import Derived.Shelf.Strings.SlTrimAscii
import Derived.Shelf.Small.Wraps
import Derived.Shelf.Bits.Mul64
set_option linter.unusedVariables false
set_option linter.unusedSimpArgs false
namespace Go.Proofs.YtapjndhbdpbjcaaDoor
open Go.RowKit Go.Shelf Go.Lib
def lays160_ren : Go.Shelf.Ren := ⟨fun | 160 => 13 | 232 => 22 | 231 => 21 | 227 => 23 | 234 => 25 | 233 => 24 | 236 => 27 | 235 => 26 | 228 => 32 | 271 => 35 | 151 => 34 | 197 => 33 | 120 => 39 | 152 => 38 | 260 => 37 | 137 => 40 | 119 => 41 | 224 => 42 | 225 => 43 | 217 => 44 | 266 => 45 | n => n, fun | 9 => 9 | 4 => 4 | 3 => 3 | 5 => 5 | 117 => 47 | 116 => 46 | 0 => 0 | 124 => 50 | 21 => 21 | 105 => 57 | 46 => 42 | 119 => 61 | 139 => 64 | 138 => 63 | n => n, fun | 3 => 2 | 4 => 3 | n => n⟩
theorem lays160 : Go.Proofs.Lays.n160 Tryd.prog lays160_ren := {
  mixed := by kernel_rfl
  f119 := Tryd.func41.trans (congrArg some (by kernel_rfl))
  f120 := Tryd.func39.trans (congrArg some (by kernel_rfl))
  f137 := Tryd.func40.trans (congrArg some (by kernel_rfl))
  f151 := Tryd.func34.trans (congrArg some (by kernel_rfl))
  f152 := Tryd.func38.trans (congrArg some (by kernel_rfl))
  f160 := Tryd.func13.trans (congrArg some (by kernel_rfl))
  f197 := Tryd.func33.trans (congrArg some (by kernel_rfl))
  f217 := Tryd.func44.trans (congrArg some (by kernel_rfl))
  f224 := Tryd.func42.trans (congrArg some (by kernel_rfl))
  f225 := Tryd.func43.trans (congrArg some (by kernel_rfl))
  f227 := Tryd.func23.trans (congrArg some (by kernel_rfl))
  f228 := Tryd.func32.trans (congrArg some (by kernel_rfl))
  f231 := Tryd.func21.trans (congrArg some (by kernel_rfl))
  f232 := Tryd.func22.trans (congrArg some (by kernel_rfl))
  f233 := Tryd.func24.trans (congrArg some (by kernel_rfl))
  f234 := Tryd.func25.trans (congrArg some (by kernel_rfl))
  f235 := Tryd.func26.trans (congrArg some (by kernel_rfl))
  f236 := Tryd.func27.trans (congrArg some (by kernel_rfl))
  f260 := Tryd.func37.trans (congrArg some (by kernel_rfl))
  f266 := Tryd.func45.trans (congrArg some (by kernel_rfl))
  f271 := Tryd.func35.trans (congrArg some (by kernel_rfl))
  t0 := Tryd.underlying0
  a0 := Tryd.isAgg0
  z0 := Tryd.sizeOf0
  v0 := Tryd.zeroValue0
  t3 := Tryd.underlying3
  a3 := Tryd.isAgg3
  z3 := Tryd.sizeOf3
  v3 := Tryd.zeroValue3
  t4 := Tryd.underlying4
  a4 := Tryd.isAgg4
  z4 := Tryd.sizeOf4
  v4 := Tryd.zeroValue4
  t5 := Tryd.underlying5
  a5 := Tryd.isAgg5
  z5 := Tryd.sizeOf5
  v5 := Tryd.zeroValue5
  t9 := Tryd.underlying9
  a9 := Tryd.isAgg9
  z9 := Tryd.sizeOf9
  v9 := Tryd.zeroValue9
  t21 := Tryd.underlying21
  a21 := Tryd.isAgg21
  z21 := Tryd.sizeOf21
  v21 := Tryd.zeroValue21
  t46 := Tryd.underlying42
  a46 := Tryd.isAgg42
  z46 := Tryd.sizeOf42
  v46 := Tryd.zeroValue42
  t105 := Tryd.underlying57
  a105 := Tryd.isAgg57
  z105 := Tryd.sizeOf57
  v105 := Tryd.zeroValue57
  t116 := Tryd.underlying46
  a116 := Tryd.isAgg46
  z116 := Tryd.sizeOf46
  t117 := Tryd.underlying47
  a117 := Tryd.isAgg47
  z117 := Tryd.sizeOf47
  v117 := Tryd.zeroValue47
  t119 := Tryd.underlying61
  a119 := Tryd.isAgg61
  z119 := Tryd.sizeOf61
  t124 := Tryd.underlying50
  a124 := Tryd.isAgg50
  z124 := Tryd.sizeOf50
  v124 := Tryd.zeroValue50
  t138 := Tryd.underlying63
  a138 := Tryd.isAgg63
  z138 := Tryd.sizeOf63
  v138 := Tryd.zeroValue63
  t139 := Tryd.underlying64
  a139 := Tryd.isAgg64
  z139 := Tryd.sizeOf64
  v139 := Tryd.zeroValue64
  g3 := by kernel_rfl
  g4 := by kernel_rfl }
def lays103_ren : Go.Shelf.Ren := ⟨fun | 103 => 12 | 210 => 20 | 206 => 31 | n => n, fun | 9 => 9 | 4 => 4 | 24 => 35 | 3 => 3 | n => n, fun | n => n⟩
theorem lays103 : Go.Proofs.Lays.n103 Tryd.prog lays103_ren := {
  mixed := by kernel_rfl
  f103 := Tryd.func12.trans (congrArg some (by kernel_rfl))
  f206 := Tryd.func31.trans (congrArg some (by kernel_rfl))
  f210 := Tryd.func20.trans (congrArg some (by kernel_rfl))
  t3 := Tryd.underlying3
  a3 := Tryd.isAgg3
  z3 := Tryd.sizeOf3
  v3 := Tryd.zeroValue3
  t4 := Tryd.underlying4
  a4 := Tryd.isAgg4
  z4 := Tryd.sizeOf4
  v4 := Tryd.zeroValue4
  t9 := Tryd.underlying9
  a9 := Tryd.isAgg9
  z9 := Tryd.sizeOf9
  v9 := Tryd.zeroValue9
  t24 := Tryd.underlying35
  a24 := Tryd.isAgg35
  z24 := Tryd.sizeOf35
  v24 := Tryd.zeroValue35 }
def lays264_ren : Go.Shelf.Ren := ⟨fun | 264 => 14 | n => n, fun | 53 => 22 | 46 => 42 | n => n, fun | n => n⟩
theorem lays264 : Go.Proofs.Lays.n264 Tryd.prog lays264_ren := {
  mixed := by kernel_rfl
  f264 := Tryd.func14.trans (congrArg some (by kernel_rfl))
  t46 := Tryd.underlying42
  a46 := Tryd.isAgg42
  z46 := Tryd.sizeOf42
  v46 := Tryd.zeroValue42
  t53 := Tryd.underlying22
  a53 := Tryd.isAgg22
  z53 := Tryd.sizeOf22
  v53 := Tryd.zeroValue22 }
theorem trim_any (s : ByteArray) (w : World) (hs : s.size ≤ 9223372036854775807) :
    Calls Tryd.prog 13 #[.string s, .string ⟨#[48, 49, 50, 51, 52, 53, 54, 55, 56, 57]⟩] w fun e w' => e = .returned (.string ⟨(Lib.trimS s.data.toList [48, 49, 50, 51, 52, 53, 54, 55, 56, 57]).toArray⟩) ∧ Below w.heap.size w w' := by
  have hcon := Any.strings_Trim_laid lays160 (by kernel_rfl) s ⟨#[48, 49, 50, 51, 52, 53, 54, 55, 56, 57]⟩ w hs (by decide) (ascii_of_all (by decide))
  change Calls Tryd.prog 13 _ _ (fun e w' => e = .returned (.string ⟨(Lib.trimS s.data.toList [48, 49, 50, 51, 52, 53, 54, 55, 56, 57]).toArray⟩) ∧ Below w.heap.size w w') at hcon
  exact hcon
theorem mul_any (x : Nat) (hx : x < 18446744073709551616) (w : World) :
    Calls Tryd.prog 14 #[.int .u64 (x : Int), .int .u64 10] w fun e w' => e = .returned (.tuple #[.int .u64 ((x * 10 / 18446744073709551616 : Nat) : Int), .int .u64 ((x * 10 % 18446744073709551616 : Nat) : Int)]) ∧ w' = w := by
  have hcon := Any.bits_Mul64 lays264 x 10 hx (by decide) w
  change Calls Tryd.prog 14 _ _ _ at hcon
  exact hcon
theorem cut_neg (t : List UInt8) (w : World) : Calls Tryd.prog 12 #[.string ⟨(45 :: t).toArray⟩, .string ⟨#[45]⟩] w fun e w' => e = .returned (.tuple #[.string ⟨t.toArray⟩, .bool true]) ∧ w' = w := by
  have hcon := Any.strings_CutPrefix lays103 ⟨(45 :: t).toArray⟩ ⟨#[45]⟩ w
  change Calls Tryd.prog 12 _ _ _ at hcon
  simpa [Lib.trimPrefix, Lib.hasPrefix] using hcon
theorem cut_pos (t : List UInt8) (h : t.head? ≠ some 45) (w : World) : Calls Tryd.prog 12 #[.string ⟨t.toArray⟩, .string ⟨#[45]⟩] w fun e w' => e = .returned (.tuple #[.string ⟨t.toArray⟩, .bool false]) ∧ w' = w := by
  have hcon := Any.strings_CutPrefix lays103 ⟨t.toArray⟩ ⟨#[45]⟩ w
  change Calls Tryd.prog 12 _ _ _ at hcon
  have e : List.isPrefixOf [45] t = false := by
    cases t with
    | nil => rfl
    | cons a t => simp at h; simp [List.isPrefixOf]; exact fun k => h k.symm
  simpa [Lib.trimPrefix, Lib.hasPrefix, e] using hcon
end Go.Proofs.YtapjndhbdpbjcaaDoor
