/-
  THE WALK of wide.Format. Conditions: the limbs fit their kinds.
-/
import Derived.Test.YtapjndhbdpbjcaaDoorFmt
import Derived.Test.YtapjndhbdpbjcaaDoorDiv
import Derived.Deep.LoopGhost
import Derived.Laws.BytesString
import Derived.Lib.Hide
namespace Go.Proofs.YtapjndhbdpbjcaaDoor
open Go.RowKit

theorem Tryd.infoU8 : (Tryd.prog.info? 5).map (fun i => (i.zero, i.size, i.bytes)) = some (some (.int .u8 0), 1, 1) := by kernel_rfl

theorem div_any (h l : Int) (b : isU l) (c : 0 ≤ h) (d : h < 10) (w : World) :
    Calls Tryd.prog 19 #[.int .u64 h, .int .u64 l, .int .u64 10] w fun e w' => e = .returned (.tuple #[.int .u64 (divQ h l), .int .u64 (divR h l)]) ∧ Below w.heap.size w w' := by
  by_cases e : h = 0
  · subst e
    have e1 : divQ 0 l = l / 10 := by unfold divQ; omega
    have e2 : divR 0 l = l % 10 := by unfold divR; omega
    rw [e1, e2]
    exact div_lo l b.1 b.2 w
  · exact div_hi h l b (by omega) d w

/-- the number without its sign, and its text -/
def absN (h l : Int) : Nat := if h < 0 then (IntKind.u64.wrap (negHi h l) * 18446744073709551616 + negLo l).toNat else (h * 18446744073709551616 + l).toNat
theorem hl_pos {h l : Int} (b : isU l) (c : 0 ≤ h) (d : isI h) : IntKind.u64.wrap h = hiK (absN h l) 0 ∧ l = loK (absN h l) 0 ∧ absN h l < 340282366920938463463374607431768211456 := by
  unfold isU at b; unfold isI at d
  unfold hiK loK absN
  rw [if_neg (by omega), wrapU_eq]
  simp only [Nat.pow_zero, Nat.div_one]
  omega

theorem hl_neg {h l : Int} (b : isU l) (c : ¬ 0 ≤ h) (d : isI h) : IntKind.u64.wrap (negHi h l) = hiK (absN h l) 0 ∧ negLo l = loK (absN h l) 0 ∧ absN h l < 340282366920938463463374607431768211456 := by
  have u1 := wrapU (negHi h l)
  have u2 := isU_negLo l
  unfold isU at u1 u2
  unfold hiK loK absN
  rw [if_pos (by omega)]
  simp only [Nat.pow_zero, Nat.div_one]
  omega

theorem run_str_of_row {P : Program} {src dst e : TypeId} {w : World} {base g n cap : Nat} {ns : List Int} (hs : P.underlying src = some (.slice e)) (he : P.underlying e = some (.int .u8)) (hd : P.underlying dst = some .string)
    (h : w.ownsRow base e 1 (.slice (some ⟨g, 0, none⟩) n cap) n (ns.map (Value.int .u8))) : (convert src dst (.slice (some ⟨g, 0, none⟩) n cap)).run P w = .ok (.string (txt ns)) w := by
  have hl : ns.length = n := by have := h.1; simpa using this
  rw [run_convert_bytes_string w src dst e _ _ _ hs he hd, run_bytesToString w _ _ _ ns, foldl_push]
  · unfold txt; congr 1; simp [ByteArray.empty, ByteArray.emptyWithCapacity]; rfl
  · have := run_loadCells_list (P := P) w ⟨g, 0, none⟩ (ns.map (Value.int .u8)) (fun j v hj => by
      have hlt : j < n * 1 := by have := (List.getElem?_eq_some_iff.1 hj).1; simpa [hl] using this
      have := h.cellAt j hlt
      rw [hj] at this
      by_cases hj0 : j = 0 <;> simpa [Addr.add, hj0] using this)
    rw [List.length_map, hl] at this
    exact this

set_option maxHeartbeats 1000000 in
theorem format_any (h l : Int) (a : isI h) (b : isU l) (w : World) :
    Calls Tryd.prog 9 #[.agg #[.int .i64 h, .int .u64 l]] w fun e w' => e = .returned (.string (sgnTxt h ++ fmtTxt (absN h l))) ∧ Below w.heap.size w w' := by
  obtain ⟨i0, hi, hz0, hz1, hz2⟩ := info_parts Tryd.infoU8
  by_cases c : 0 ≤ h
  · obtain ⟨x1, x2, x3⟩ := hl_pos b c a
    generalize absN h l = N at x1 x2 x3 ⊢
    have esg : sgnTxt h = ⟨#[]⟩ := if_neg (by omega)
    rw [esg]
    clear esg
    go_enter Tryd.func9, Tryd.ntmps9
    go_wp2
    refine wp_region_ext (by kernel_rfl) (by kernel_rfl) ?_
    repeat (go_big_quiet_step ((fail)))
    refine wpQuiet_nil ?_
    rintro _ ⟨x, rfl⟩
    go_wp2
    have hnd := nd_spec x3
    have hh := @hiK_nonneg N
    have hH := fun k => @hiK_lt N k x3
    have hL := loK_isU N
    have hD := dig_bd N
    have HID := Lib.hid (And.intro hnd (And.intro hh (And.intro hH (And.intro hL hD))))
    clear hnd hh hH hL hD x1 x2 x3
    go_loopg [4, 5, 6] (nd N) (fun g hi lo v wr => ∃ k : Nat, k + g = nd N ∧ hi = .int .u64 (hiK N k) ∧ lo = .int .u64 (loK N k) ∧ wr.ownsRow w.heap.size 5 1 v k ((digs N k).map (Value.int .u8)) ∧ Below w.heap.size w wr ∧ (k = 0 → v = .slice none 0 0))
    case atStart => exact ⟨0, by omega, rfl, rfl, World.ownsRow_nil _ _ _ _, by repeat (first | exact Below.refl _ _ | apply Below.al | apply Below.on | (refine Below.st ?_ (by simp) _) | apply Below.drew), fun _ => rfl⟩
    case round =>
      obtain ⟨k, hg, rfl, rfl, hown, hbel, hnil⟩ := hrel
      obtain ⟨hnd, hh, hH, hL, hD⟩ := HID.out
      have hh0 := hh k
      have hH0 := hH k
      have hL0 := (hL k).1
      have hL1 := (hL k).2
      have hD0 := (hD k).1
      have hD1 := (hD k).2
      have e1 := hiK_succ N k
      have e2 := loK_succ N k
      have e3 := dig_eq N k
      have hlz := @left_zero N k
      have hfin : gk = 0 → hiK N k = 0 ∧ loK N k = 0 ∧ 0 < k := fun h => by
        obtain rfl : k = nd N := by omega
        exact ⟨(hlz.2 hnd.2.1).1, (hlz.2 hnd.2.1).2, hnd.1⟩
      have hgo : gk ≠ 0 → (hiK N k = 0 ∧ loK N k = 0) → k = 0 := fun h z => by
        have := hlz.1 z
        by_cases k0 : k = 0
        · exact k0
        · have := hnd.2.2.1 k (by omega) (by omega); omega
      have hk41 : k ≤ 41 := by omega
      clear hnd hh hH hL hD hlz
      by_cases hg0 : gk = 0
      · obtain ⟨z1, z2, z3⟩ := hfin hg0
        have HG := Lib.hid (And.intro hgo (And.intro hfin hg0))
        clear hgo hfin hg0 e1 e2 e3
        rcases hown.2 with ⟨_, hk0⟩ | ⟨gb, cap, cur, rfl, hb1, hb2, hb3, hb4, hb5, hb6⟩
        · omega
        rw [z1, z2]
        have z3' : ((k : Int) == 0) = false := by simp; omega
        go_wp2
        clear hh0 hH0 hL0 hL1 hD0 hD1 z1 z2 z3' hb2 hb6 hb5 hnil
        go_loopg [8, 9] k (fun g i j w2 => ∃ t : Nat, 2 * t ≤ k ∧ g = k - 2 * t ∧ i = .int .i64 t ∧ j = .int .i64 ((k : Int) - 1 - t) ∧ w2.ownsRow w.heap.size 5 1 (.slice (some ⟨gb, 0, none⟩) k cap) k ((revAt (digs N k) t).map (Value.int .u8)) ∧ Below w.heap.size w w2)
        case atStart => exact ⟨0, by omega, by omega, rfl, by simp, by rw [revAt_zero]; exact hown, hbel⟩
        case round =>
          rename_i wr1 hrel1
          obtain ⟨t, ht, hgt, rfl, rfl, hown2, hbel2⟩ := hrel
          have HGT := Lib.hid hgt
          clear hgt
          by_cases hlt : t < k - 1 - t
          · have hlA : (digs N k).length = k := digs_length N k
            have c1 := hown2.cellAt t (by omega)
            have c2 := hown2.cellAt (k - 1 - t) (by omega)
            rw [List.getElem?_map, revAt_get (by rw [hlA]; omega), hlA, if_neg (by omega), Option.map_some] at c1
            rw [List.getElem?_map, revAt_get (by rw [hlA]; omega), hlA, if_neg (by omega), Option.map_some] at c2
            have f1 := fun j => hown2.frozenAt j
            have HOWN := Lib.hid (And.intro hown2 hlA)
            clear hown2 hlA
            go_wp2
            go_region
            go_wp2
            go_roundg (k - 2 * (t + 1))
            case measure => have := HGT.out; omega
            case rel =>
              obtain ⟨hown2, hlA⟩ := HOWN.out
              refine ⟨t + 1, by omega, rfl, by go_num, by go_num, ?_, (Below.st (Below.st hbel2 hb1 _) hb1 _).drew⟩
              have o1 := (hown2.stored t (.int .u8 ((digs N k)[k - 1 - t]?.getD 0))).1
              have o2 := (o1.stored (k - 1 - t) (.int .u8 ((digs N k)[t]?.getD 0))).1
              have sw := @revAt_swap (digs N k) t (by omega)
              rw [hlA, List.getD_eq_getElem?_getD, List.getD_eq_getElem?_getD] at sw
              rw [← List.map_set, ← List.map_set, sw] at o2
              exact o2.drew
          · have hlA : (digs N k).length = k := digs_length N k
            rw [revAt_end (by omega) (by omega)] at hown2
            have hcv := run_str_of_row (P := Tryd.prog) (src := 25) (dst := 9) Tryd.underlying25 Tryd.underlying5 Tryd.underlying9 hown2
            have hsz := txt_size (digs N k).reverse
            have hadd := run_string_add_sum (P := Tryd.prog) wr ⟨#[]⟩ (txt (digs N k).reverse) (by rw [hsz]; simp [ByteArray.size]; omega)
            have HX := Lib.hid (And.intro hsz hlA)
            clear hsz hlA hown2 hown
            go_wp2
            go_ret
            have hkn : k = nd N := by have := HG.out.2.2; omega
            exact ⟨by rw [hkn]; rfl, hbel2⟩
      · have hlt : k < nd N := by omega
        have HG := Lib.hid (And.intro hfin hg0)
        have h3 : (0 : Int) ≤ hiK N k % 10 := by omega
        have h4 : hiK N k % 10 < 10 := by omega
        have h5 : isU (loK N k) := ⟨hL0, hL1⟩
        have hcase : (hiK N k != 0) = true ∨ ((hiK N k != 0) = false ∧ (loK N k != 0) = true) ∨ (hiK N k = 0 ∧ loK N k = 0 ∧ k = 0) := by
          by_cases z1 : hiK N k = 0
          · by_cases z2 : loK N k = 0
            · exact .inr (.inr ⟨z1, z2, hgo hg0 ⟨z1, z2⟩⟩)
            · exact .inr (.inl ⟨by simp [z1], by simpa using z2⟩)
          · exact .inl (by simpa using z1)
        have H3 := Lib.hid (And.intro h3 (And.intro h4 (And.intro h5 hcase)))
        clear hfin hg0 hgo h3 h4 h5 hcase
        rcases H3.out.2.2.2 with hc | ⟨hc, hc2⟩ | ⟨hc, hc2, hk0⟩
        · go_wp2_with (first
            | (go_at_call 19; refine (div_any _ _ H3.out.2.2.1 H3.out.1 H3.out.2.1 _).mono ?_; rintro e w1 ⟨rfl, hb1⟩)
            | (at_builtin; go_must (refine wpList_append_own _ rfl _ _ 25 rfl w.heap.size 5 i0 (.int .u8 0) 1 1 Tryd.underlying25 hi hz0 hz1 hz2 rfl (by decide) _ k ((digs N k).map (Value.int .u8)) rfl ?c1Z0 ⟨w1.heap.size, 0, none⟩ 1 1 [.int .u8 (48 + dig N k)] rfl rfl ?c1Z1 ?c1Z2 ?c1Z3 ?c1Z4 ?c1Z5 ?_)))
          case c1Z0 => exact (own_to hown hb1).alloc _
          case c1Z1 => exact cell_one_new _ _ _
          case c1Z2 => intro u hu; simp at hu; subst hu; rfl
          case c1Z3 => unfold maxLen; omega
          case c1Z4 => omega
          case c1Z5 => have := hbel.size; have := hb1.size; simp; omega
          intro v' w2 hown' hgrow hnn
          have HB := Lib.hid (Below.gr (Below.al (Below.to hbel hb1) _) hown hgrow)
          clear hgrow hown hbel hb1 hnn
          go_wp2
          go_roundg (gk - 1)
          case measure => have := HG.out.2; omega
          case rel => exact ⟨k + 1, by have := HG.out.2; omega, rfl, rfl, by rw [digs_succ, List.map_append]; exact hown', HB.out, fun h => by omega⟩
        · go_wp2_with (first
            | (go_at_call 19; refine (div_any _ _ H3.out.2.2.1 H3.out.1 H3.out.2.1 _).mono ?_; rintro e w1 ⟨rfl, hb1⟩)
            | (at_builtin; go_must (refine wpList_append_own _ rfl _ _ 25 rfl w.heap.size 5 i0 (.int .u8 0) 1 1 Tryd.underlying25 hi hz0 hz1 hz2 rfl (by decide) _ k ((digs N k).map (Value.int .u8)) rfl ?c2Z0 ⟨w1.heap.size, 0, none⟩ 1 1 [.int .u8 (48 + dig N k)] rfl rfl ?c2Z1 ?c2Z2 ?c2Z3 ?c2Z4 ?c2Z5 ?_)))
          case c2Z0 => exact (own_to hown hb1).alloc _
          case c2Z1 => exact cell_one_new _ _ _
          case c2Z2 => intro u hu; simp at hu; subst hu; rfl
          case c2Z3 => unfold maxLen; omega
          case c2Z4 => omega
          case c2Z5 => have := hbel.size; have := hb1.size; simp; omega
          intro v' w2 hown' hgrow hnn
          have HB := Lib.hid (Below.gr (Below.al (Below.to hbel hb1) _) hown hgrow)
          clear hgrow hown hbel hb1 hnn
          go_wp2
          go_roundg (gk - 1)
          case measure => have := HG.out.2; omega
          case rel => exact ⟨k + 1, by have := HG.out.2; omega, rfl, rfl, by rw [digs_succ, List.map_append]; exact hown', HB.out, fun h => by omega⟩
        · obtain rfl := hk0
          obtain rfl := hnil rfl
          have q1 : (hiK N 0 != 0) = false := by simp [hc]
          have q2 : (loK N 0 != 0) = false := by simp [hc2]
          clear hc hc2
          go_wp2_with (first
            | (go_at_call 19; refine (div_any _ _ H3.out.2.2.1 H3.out.1 H3.out.2.1 _).mono ?_; rintro e w1 ⟨rfl, hb1⟩)
            | (at_builtin; go_must (refine wpList_append_own _ rfl _ _ 25 rfl w.heap.size 5 i0 (.int .u8 0) 1 1 Tryd.underlying25 hi hz0 hz1 hz2 rfl (by decide) _ 0 ((digs N 0).map (Value.int .u8)) rfl ?c3Z0 ⟨w1.heap.size, 0, none⟩ 1 1 [.int .u8 (48 + dig N 0)] rfl rfl ?c3Z1 ?c3Z2 ?c3Z3 ?c3Z4 ?c3Z5 ?_)))
          case c3Z0 => exact (own_to hown hb1).alloc _
          case c3Z1 => exact cell_one_new _ _ _
          case c3Z2 => intro u hu; simp at hu; subst hu; rfl
          case c3Z3 => unfold maxLen; omega
          case c3Z4 => omega
          case c3Z5 => have := hbel.size; have := hb1.size; simp; omega
          intro v' w2 hown' hgrow hnn
          have HB := Lib.hid (Below.gr (Below.al (Below.to hbel hb1) _) hown hgrow)
          clear hgrow hown hbel hb1 hnn
          go_wp2
          go_roundg (gk - 1)
          case measure => have := HG.out.2; omega
          case rel => exact ⟨0 + 1, by have := HG.out.2; omega, rfl, rfl, by rw [digs_succ, List.map_append]; exact hown', HB.out, fun h => by omega⟩
  · obtain ⟨x1, x2, x3⟩ := hl_neg b c a
    have esg : sgnTxt h = ⟨#[45]⟩ := if_pos (by omega)
    rw [esg]
    clear esg
    generalize absN h l = N at x1 x2 x3 ⊢
    have ha := Lib.hid (And.intro a b)
    clear a b
    go_enter Tryd.func9, Tryd.ntmps9
    go_wp2_with (go_at_call 16; refine (neg_any _ _ ha.out.1 ha.out.2 _).mono ?_; rintro e w1 ⟨rfl, hb1⟩; obtain ⟨x0, rfl⟩ := Ext.of hb1; have hxs : w.heap.size < x0.it.heap.size := by (have := x0.below.size; simp at this; omega))
    refine wp_region_ext (by kernel_rfl) (by kernel_rfl) ?_
    repeat (go_big_quiet_step ((fail)))
    refine wpQuiet_nil ?_
    rintro _ ⟨x, rfl⟩
    go_wp2
    have hnd := nd_spec x3
    have hh := @hiK_nonneg N
    have hH := fun k => @hiK_lt N k x3
    have hL := loK_isU N
    have hD := dig_bd N
    have HID := Lib.hid (And.intro hnd (And.intro hh (And.intro hH (And.intro hL hD))))
    clear hnd hh hH hL hD x1 x2 x3
    go_loopg [4, 5, 6] (nd N) (fun g hi lo v wr => ∃ k : Nat, k + g = nd N ∧ hi = .int .u64 (hiK N k) ∧ lo = .int .u64 (loK N k) ∧ wr.ownsRow w.heap.size 5 1 v k ((digs N k).map (Value.int .u8)) ∧ Below w.heap.size w wr ∧ (k = 0 → v = .slice none 0 0))
    case atStart => exact ⟨0, by omega, rfl, rfl, World.ownsRow_nil _ _ _ _, by repeat (first | exact Below.refl _ _ | apply Below.al | apply Below.on | (refine Below.st ?_ (by simp) _) | apply Below.drew), fun _ => rfl⟩
    case round =>
      obtain ⟨k, hg, rfl, rfl, hown, hbel, hnil⟩ := hrel
      obtain ⟨hnd, hh, hH, hL, hD⟩ := HID.out
      have hh0 := hh k
      have hH0 := hH k
      have hL0 := (hL k).1
      have hL1 := (hL k).2
      have hD0 := (hD k).1
      have hD1 := (hD k).2
      have e1 := hiK_succ N k
      have e2 := loK_succ N k
      have e3 := dig_eq N k
      have hlz := @left_zero N k
      have hfin : gk = 0 → hiK N k = 0 ∧ loK N k = 0 ∧ 0 < k := fun h => by
        obtain rfl : k = nd N := by omega
        exact ⟨(hlz.2 hnd.2.1).1, (hlz.2 hnd.2.1).2, hnd.1⟩
      have hgo : gk ≠ 0 → (hiK N k = 0 ∧ loK N k = 0) → k = 0 := fun h z => by
        have := hlz.1 z
        by_cases k0 : k = 0
        · exact k0
        · have := hnd.2.2.1 k (by omega) (by omega); omega
      have hk41 : k ≤ 41 := by omega
      clear hnd hh hH hL hD hlz
      by_cases hg0 : gk = 0
      · obtain ⟨z1, z2, z3⟩ := hfin hg0
        have HG := Lib.hid (And.intro hgo (And.intro hfin hg0))
        clear hgo hfin hg0 e1 e2 e3
        rcases hown.2 with ⟨_, hk0⟩ | ⟨gb, cap, cur, rfl, hb1, hb2, hb3, hb4, hb5, hb6⟩
        · omega
        rw [z1, z2]
        have z3' : ((k : Int) == 0) = false := by simp; omega
        go_wp2
        clear hh0 hH0 hL0 hL1 hD0 hD1 z1 z2 z3' hb2 hb6 hb5 hnil
        go_loopg [8, 9] k (fun g i j w2 => ∃ t : Nat, 2 * t ≤ k ∧ g = k - 2 * t ∧ i = .int .i64 t ∧ j = .int .i64 ((k : Int) - 1 - t) ∧ w2.ownsRow w.heap.size 5 1 (.slice (some ⟨gb, 0, none⟩) k cap) k ((revAt (digs N k) t).map (Value.int .u8)) ∧ Below w.heap.size w w2)
        case atStart => exact ⟨0, by omega, by omega, rfl, by simp, by rw [revAt_zero]; exact hown, hbel⟩
        case round =>
          rename_i wr1 hrel1
          obtain ⟨t, ht, hgt, rfl, rfl, hown2, hbel2⟩ := hrel
          have HGT := Lib.hid hgt
          clear hgt
          by_cases hlt : t < k - 1 - t
          · have hlA : (digs N k).length = k := digs_length N k
            have c1 := hown2.cellAt t (by omega)
            have c2 := hown2.cellAt (k - 1 - t) (by omega)
            rw [List.getElem?_map, revAt_get (by rw [hlA]; omega), hlA, if_neg (by omega), Option.map_some] at c1
            rw [List.getElem?_map, revAt_get (by rw [hlA]; omega), hlA, if_neg (by omega), Option.map_some] at c2
            have f1 := fun j => hown2.frozenAt j
            have HOWN := Lib.hid (And.intro hown2 hlA)
            clear hown2 hlA
            go_wp2
            go_region
            go_wp2
            go_roundg (k - 2 * (t + 1))
            case measure => have := HGT.out; omega
            case rel =>
              obtain ⟨hown2, hlA⟩ := HOWN.out
              refine ⟨t + 1, by omega, rfl, by go_num, by go_num, ?_, (Below.st (Below.st hbel2 hb1 _) hb1 _).drew⟩
              have o1 := (hown2.stored t (.int .u8 ((digs N k)[k - 1 - t]?.getD 0))).1
              have o2 := (o1.stored (k - 1 - t) (.int .u8 ((digs N k)[t]?.getD 0))).1
              have sw := @revAt_swap (digs N k) t (by omega)
              rw [hlA, List.getD_eq_getElem?_getD, List.getD_eq_getElem?_getD] at sw
              rw [← List.map_set, ← List.map_set, sw] at o2
              exact o2.drew
          · have hlA : (digs N k).length = k := digs_length N k
            rw [revAt_end (by omega) (by omega)] at hown2
            have hcv := run_str_of_row (P := Tryd.prog) (src := 25) (dst := 9) Tryd.underlying25 Tryd.underlying5 Tryd.underlying9 hown2
            have hsz := txt_size (digs N k).reverse
            have hadd := run_string_add_sum (P := Tryd.prog) wr ⟨#[45]⟩ (txt (digs N k).reverse) (by rw [hsz]; simp [ByteArray.size]; omega)
            have HX := Lib.hid (And.intro hsz hlA)
            clear hsz hlA hown2 hown
            go_wp2
            go_ret
            have hkn : k = nd N := by have := HG.out.2.2; omega
            exact ⟨by rw [hkn]; rfl, hbel2⟩
      · have hlt : k < nd N := by omega
        have HG := Lib.hid (And.intro hfin hg0)
        have h3 : (0 : Int) ≤ hiK N k % 10 := by omega
        have h4 : hiK N k % 10 < 10 := by omega
        have h5 : isU (loK N k) := ⟨hL0, hL1⟩
        have hcase : (hiK N k != 0) = true ∨ ((hiK N k != 0) = false ∧ (loK N k != 0) = true) ∨ (hiK N k = 0 ∧ loK N k = 0 ∧ k = 0) := by
          by_cases z1 : hiK N k = 0
          · by_cases z2 : loK N k = 0
            · exact .inr (.inr ⟨z1, z2, hgo hg0 ⟨z1, z2⟩⟩)
            · exact .inr (.inl ⟨by simp [z1], by simpa using z2⟩)
          · exact .inl (by simpa using z1)
        have H3 := Lib.hid (And.intro h3 (And.intro h4 (And.intro h5 hcase)))
        clear hfin hg0 hgo h3 h4 h5 hcase
        rcases H3.out.2.2.2 with hc | ⟨hc, hc2⟩ | ⟨hc, hc2, hk0⟩
        · go_wp2_with (first
            | (go_at_call 19; refine (div_any _ _ H3.out.2.2.1 H3.out.1 H3.out.2.1 _).mono ?_; rintro e w1 ⟨rfl, hb1⟩)
            | (at_builtin; go_must (refine wpList_append_own _ rfl _ _ 25 rfl w.heap.size 5 i0 (.int .u8 0) 1 1 Tryd.underlying25 hi hz0 hz1 hz2 rfl (by decide) _ k ((digs N k).map (Value.int .u8)) rfl ?c1Z0 ⟨w1.heap.size, 0, none⟩ 1 1 [.int .u8 (48 + dig N k)] rfl rfl ?c1Z1 ?c1Z2 ?c1Z3 ?c1Z4 ?c1Z5 ?_)))
          case c1Z0 => exact (own_to hown hb1).alloc _
          case c1Z1 => exact cell_one_new _ _ _
          case c1Z2 => intro u hu; simp at hu; subst hu; rfl
          case c1Z3 => unfold maxLen; omega
          case c1Z4 => omega
          case c1Z5 => have := hbel.size; have := hb1.size; simp; omega
          intro v' w2 hown' hgrow hnn
          have HB := Lib.hid (Below.gr (Below.al (Below.to hbel hb1) _) hown hgrow)
          clear hgrow hown hbel hb1 hnn
          go_wp2
          go_roundg (gk - 1)
          case measure => have := HG.out.2; omega
          case rel => exact ⟨k + 1, by have := HG.out.2; omega, rfl, rfl, by rw [digs_succ, List.map_append]; exact hown', HB.out, fun h => by omega⟩
        · go_wp2_with (first
            | (go_at_call 19; refine (div_any _ _ H3.out.2.2.1 H3.out.1 H3.out.2.1 _).mono ?_; rintro e w1 ⟨rfl, hb1⟩)
            | (at_builtin; go_must (refine wpList_append_own _ rfl _ _ 25 rfl w.heap.size 5 i0 (.int .u8 0) 1 1 Tryd.underlying25 hi hz0 hz1 hz2 rfl (by decide) _ k ((digs N k).map (Value.int .u8)) rfl ?c2Z0 ⟨w1.heap.size, 0, none⟩ 1 1 [.int .u8 (48 + dig N k)] rfl rfl ?c2Z1 ?c2Z2 ?c2Z3 ?c2Z4 ?c2Z5 ?_)))
          case c2Z0 => exact (own_to hown hb1).alloc _
          case c2Z1 => exact cell_one_new _ _ _
          case c2Z2 => intro u hu; simp at hu; subst hu; rfl
          case c2Z3 => unfold maxLen; omega
          case c2Z4 => omega
          case c2Z5 => have := hbel.size; have := hb1.size; simp; omega
          intro v' w2 hown' hgrow hnn
          have HB := Lib.hid (Below.gr (Below.al (Below.to hbel hb1) _) hown hgrow)
          clear hgrow hown hbel hb1 hnn
          go_wp2
          go_roundg (gk - 1)
          case measure => have := HG.out.2; omega
          case rel => exact ⟨k + 1, by have := HG.out.2; omega, rfl, rfl, by rw [digs_succ, List.map_append]; exact hown', HB.out, fun h => by omega⟩
        · obtain rfl := hk0
          obtain rfl := hnil rfl
          have q1 : (hiK N 0 != 0) = false := by simp [hc]
          have q2 : (loK N 0 != 0) = false := by simp [hc2]
          clear hc hc2
          go_wp2_with (first
            | (go_at_call 19; refine (div_any _ _ H3.out.2.2.1 H3.out.1 H3.out.2.1 _).mono ?_; rintro e w1 ⟨rfl, hb1⟩)
            | (at_builtin; go_must (refine wpList_append_own _ rfl _ _ 25 rfl w.heap.size 5 i0 (.int .u8 0) 1 1 Tryd.underlying25 hi hz0 hz1 hz2 rfl (by decide) _ 0 ((digs N 0).map (Value.int .u8)) rfl ?c3Z0 ⟨w1.heap.size, 0, none⟩ 1 1 [.int .u8 (48 + dig N 0)] rfl rfl ?c3Z1 ?c3Z2 ?c3Z3 ?c3Z4 ?c3Z5 ?_)))
          case c3Z0 => exact (own_to hown hb1).alloc _
          case c3Z1 => exact cell_one_new _ _ _
          case c3Z2 => intro u hu; simp at hu; subst hu; rfl
          case c3Z3 => unfold maxLen; omega
          case c3Z4 => omega
          case c3Z5 => have := hbel.size; have := hb1.size; simp; omega
          intro v' w2 hown' hgrow hnn
          have HB := Lib.hid (Below.gr (Below.al (Below.to hbel hb1) _) hown hgrow)
          clear hgrow hown hbel hb1 hnn
          go_wp2
          go_roundg (gk - 1)
          case measure => have := HG.out.2; omega
          case rel => exact ⟨0 + 1, by have := HG.out.2; omega, rfl, rfl, by rw [digs_succ, List.map_append]; exact hown', HB.out, fun h => by omega⟩
end Go.Proofs.YtapjndhbdpbjcaaDoor
