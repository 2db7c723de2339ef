/-
  THE ORDER OF VALUES: cmpV is a total preorder; PRUNEISSOUND: the plain law. Conditions: none.
-/
import Derived.Test.YtfemekmkmiljdaaPzn
import Derived.Test.YtfemekmkmiljdaaPex
set_option linter.unusedVariables false
set_option linter.unusedSimpArgs false
namespace Go.Proofs.Ytfemekmkmiljdaa
open Go.RowKit
theorem notLess_trans {a b c : List UInt8} (h1 : Op.bytesLess b a = false) (h2 : Op.bytesLess c b = false) : Op.bytesLess c a = false := by
  cases h : Op.bytesLess c a with
  | false => rfl
  | true =>
    rcases bytesLess_total a b with h3 | h3 | h3
    · rw [bytesLess_trans _ _ _ h h3] at h2; exact absurd h2 (by decide)
    · rw [h3] at h; rw [h] at h2; exact absurd h2 (by decide)
    · rw [h3] at h1; exact absurd h1 (by decide)
theorem cmpI_le (a b : Int) : cmpI a b ≤ 0 ↔ a ≤ b := by
  unfold cmpI; split
  · constructor <;> intro _ <;> omega
  · split <;> constructor <;> intro _ <;> omega
theorem cmpI_ge (a b : Int) : 0 ≤ cmpI a b ↔ b ≤ a := by
  unfold cmpI; split
  · constructor <;> intro _ <;> omega
  · split <;> constructor <;> intro _ <;> omega
theorem cmpS_le (a b : ByteArray) : cmpS a b ≤ 0 ↔ Op.bytesLess b.toList a.toList = false := by
  unfold cmpS
  rcases bytesLess_total a.toList b.toList with h | h | h
  · rw [if_pos h]; exact ⟨fun _ => bytesLess_asymm _ _ h, fun _ => by decide⟩
  · rw [h, if_neg (by rw [bytesLess_irrefl]; decide), if_pos rfl]; exact ⟨fun _ => bytesLess_irrefl _, fun _ => by decide⟩
  · have h2 := bytesLess_asymm _ _ h
    rw [if_neg (by rw [h2]; decide), if_neg (by intro e; rw [e, bytesLess_irrefl] at h; exact absurd h (by decide)), h]
    exact ⟨fun k => absurd k (by decide), fun k => absurd k (by decide)⟩
theorem cmpS_ge (a b : ByteArray) : 0 ≤ cmpS a b ↔ Op.bytesLess a.toList b.toList = false := by
  unfold cmpS
  rcases bytesLess_total a.toList b.toList with h | h | h
  · rw [if_pos h, h]; exact ⟨fun k => absurd k (by decide), fun k => absurd k (by decide)⟩
  · rw [h, if_neg (by rw [bytesLess_irrefl]; decide), if_pos rfl]; exact ⟨fun _ => bytesLess_irrefl _, fun _ => by decide⟩
  · have h2 := bytesLess_asymm _ _ h
    rw [if_neg (by rw [h2]; decide), if_neg (by intro e; rw [e, bytesLess_irrefl] at h; exact absurd h (by decide))]
    exact ⟨fun _ => h2, fun _ => by decide⟩
/-- x comes before y or equals it -/
def leV (t : Int) (x y : Val) : Prop := x.null = true ∨ (x.null = false ∧ y.null = false ∧ if t = 3 then Op.bytesLess y.s.toList x.s.toList = false else x.n ≤ y.n)
theorem cmpV_le (t : Int) (x y : Val) : cmpV t x y ≤ 0 ↔ leV t x y := by
  obtain ⟨xn, x, xs⟩ := x
  obtain ⟨yn, y, ys⟩ := y
  unfold cmpV leV
  cases xn <;> cases yn <;> simp
  split
  · exact cmpS_le _ _
  · exact cmpI_le _ _
theorem cmpV_ge (t : Int) (x y : Val) : 0 ≤ cmpV t x y ↔ leV t y x := by
  obtain ⟨xn, x, xs⟩ := x
  obtain ⟨yn, y, ys⟩ := y
  unfold cmpV leV
  cases xn <;> cases yn <;> simp
  split
  · exact cmpS_ge _ _
  · exact cmpI_ge _ _
theorem leV_trans {t : Int} {x y z : Val} (h1 : leV t x y) (h2 : leV t y z) : leV t x z := by
  unfold leV at *
  rcases h1 with h1 | ⟨a1, a2, a3⟩
  · exact .inl h1
  · rcases h2 with h2 | ⟨b1, b2, b3⟩
    · rw [a2] at h2; cases h2
    · refine .inr ⟨a1, b2, ?_⟩
      by_cases ht : t = 3
      · rw [if_pos ht] at *; exact notLess_trans a3 b3
      · rw [if_neg ht] at *; omega
theorem leV_refl (t : Int) (x : Val) : leV t x x := by
  unfold leV
  cases h : x.null with
  | true => exact .inl rfl
  | false =>
    refine .inr ⟨rfl, rfl, ?_⟩
    split
    · exact bytesLess_irrefl _
    · exact Int.le_refl _
structure Ends (ty : Int) (l : List Val) (lo hi : Val) : Prop where
  lon : lo.null = false
  hin : hi.null = false
  lom : lo ∈ l
  him : hi ∈ l
  low : ∀ u ∈ l, u.null = false → leV ty lo u
  hiw : ∀ u ∈ l, u.null = false → leV ty u hi
structure ZInv (ty : Int) (l : List Val) (z : Zon) : Prop where
  cnt : z.nulls = ((l.filter fun v => v.null).length : Nat)
  some : (∃ v ∈ l, v.null = false) → Ends ty l z.min z.max
  none : (∀ v ∈ l, v.null = true) → z.min = nulV ∧ z.max = nulV
theorem ZInv.step {ty : Int} {l : List Val} {z : Zon} (h : ZInv ty l z) (v : Val) : ZInv ty (l ++ [v]) (zstep ty z v) := by
  unfold zstep
  by_cases hv : v.null = true
  · rw [if_pos hv]
    refine ⟨?_, ?_, ?_⟩
    · dsimp only; rw [List.filter_append, List.length_append, h.cnt]; simp [hv]
    · rintro ⟨u, hu, hn⟩
      rcases List.mem_append.1 hu with q | q
      · have e := h.some ⟨u, q, hn⟩
        exact ⟨e.lon, e.hin, List.mem_append_left _ e.lom, List.mem_append_left _ e.him, fun x hx hxn => (List.mem_append.1 hx).elim (fun k => e.low x k hxn) (fun k => by rw [List.mem_singleton.1 k, hv] at hxn; cases hxn), fun x hx hxn => (List.mem_append.1 hx).elim (fun k => e.hiw x k hxn) (fun k => by rw [List.mem_singleton.1 k, hv] at hxn; cases hxn)⟩
      · rw [List.mem_singleton.1 q, hv] at hn; cases hn
    · intro ha
      exact h.none fun u hu => ha u (List.mem_append_left _ hu)
  · have hvn : v.null = false := by simpa using hv
    rw [if_neg hv]
    refine ⟨?_, ?_, ?_⟩
    · dsimp only; rw [List.filter_append, List.length_append, h.cnt]; simp [hvn]
    · intro _
      by_cases hs : ∃ u ∈ l, u.null = false
      · have e := h.some hs
        have p1 : pickF ty (-1) z.min v = if cmpV ty v z.min = -1 then v else z.min := by unfold pickF; rw [e.lon, hvn]; simp
        have p2 : pickF ty 1 z.max v = if cmpV ty v z.max = 1 then v else z.max := by unfold pickF; rw [e.hin, hvn]; simp
        dsimp only
        rw [p1, p2]
        have c1 := cmp3 ty v z.min
        have c2 := cmp3 ty v z.max
        have L : (if cmpV ty v z.min = -1 then v else z.min).null = false ∧ (if cmpV ty v z.min = -1 then v else z.min) ∈ l ++ [v] ∧ ∀ u ∈ l ++ [v], u.null = false → leV ty (if cmpV ty v z.min = -1 then v else z.min) u := by
          by_cases q : cmpV ty v z.min = -1
          · rw [if_pos q]
            have le := (cmpV_le ty v z.min).1 (by omega)
            refine ⟨hvn, by simp, fun u hu hun => ?_⟩
            rcases List.mem_append.1 hu with k | k
            · exact leV_trans le (e.low u k hun)
            · rw [List.mem_singleton.1 k]; exact leV_refl _ _
          · rw [if_neg q]
            have ge := (cmpV_ge ty v z.min).1 (by omega)
            refine ⟨e.lon, List.mem_append_left _ e.lom, fun u hu hun => ?_⟩
            rcases List.mem_append.1 hu with k | k
            · exact e.low u k hun
            · rw [List.mem_singleton.1 k]; exact ge
        have Hh : (if cmpV ty v z.max = 1 then v else z.max).null = false ∧ (if cmpV ty v z.max = 1 then v else z.max) ∈ l ++ [v] ∧ ∀ u ∈ l ++ [v], u.null = false → leV ty u (if cmpV ty v z.max = 1 then v else z.max) := by
          by_cases q : cmpV ty v z.max = 1
          · rw [if_pos q]
            have ge := (cmpV_ge ty v z.max).1 (by omega)
            refine ⟨hvn, by simp, fun u hu hun => ?_⟩
            rcases List.mem_append.1 hu with k | k
            · exact leV_trans (e.hiw u k hun) ge
            · rw [List.mem_singleton.1 k]; exact leV_refl _ _
          · rw [if_neg q]
            have le := (cmpV_le ty v z.max).1 (by omega)
            refine ⟨e.hin, List.mem_append_left _ e.him, fun u hu hun => ?_⟩
            rcases List.mem_append.1 hu with k | k
            · exact e.hiw u k hun
            · rw [List.mem_singleton.1 k]; exact le
        exact ⟨L.1, Hh.1, L.2.1, Hh.2.1, L.2.2, Hh.2.2⟩
      · have all : ∀ u ∈ l, u.null = true := fun u hu => by
          cases q : u.null with
          | true => rfl
          | false => exact absurd ⟨u, hu, q⟩ hs
        obtain ⟨e1, e2⟩ := h.none all
        have p1 : pickF ty (-1) z.min v = v := by unfold pickF; rw [e1, hvn]; simp [nulV]
        have p2 : pickF ty 1 z.max v = v := by unfold pickF; rw [e2, hvn]; simp [nulV]
        dsimp only
        rw [p1, p2]
        exact ⟨hvn, hvn, by simp, by simp, fun u hu hun => (List.mem_append.1 hu).elim (fun k => by rw [all u k] at hun; cases hun) (fun k => by rw [List.mem_singleton.1 k]; exact leV_refl _ _), fun u hu hun => (List.mem_append.1 hu).elim (fun k => by rw [all u k] at hun; cases hun) (fun k => by rw [List.mem_singleton.1 k]; exact leV_refl _ _)⟩
    · intro ha
      exact absurd (ha v (by simp)) hv
theorem zinv_fold (ty : Int) : ∀ (r l : List Val) (z : Zon), ZInv ty l z → ZInv ty (l ++ r) (r.foldl (zstep ty) z)
  | [], l, z, h => by simpa using h
  | v :: r, l, z, h => by
    have := zinv_fold ty r (l ++ [v]) (zstep ty z v) (h.step v)
    rw [List.append_assoc] at this
    exact this
theorem zinv (ty : Int) (l : List Val) : ZInv ty l (zoneF ty l) := by
  have h := zinv_fold ty l [] ⟨(l.length : Int), 0, nulV, nulV⟩ ⟨rfl, fun ⟨v, hv, _⟩ => absurd hv (by simp), fun _ => ⟨rfl, rfl⟩⟩
  rw [List.nil_append] at h
  exact h
theorem zrows (ty : Int) (l : List Val) : (zoneF ty l).rows = (l.length : Int) := (zoneK_bd ty (l.length : Int) l).1
theorem zfacts {ty : Int} {l : List Val} {v : Val} (hv : v ∈ l) : (v.null = true → 0 < (zoneF ty l).nulls) ∧ (v.null = false → (zoneF ty l).nulls < (zoneF ty l).rows) := by
  have hc := (zinv ty l).cnt
  rw [hc, zrows]
  refine ⟨fun h => ?_, fun h => ?_⟩
  · have : v ∈ l.filter fun v => v.null := List.mem_filter.2 ⟨hv, h⟩
    have := List.length_pos_of_mem this
    omega
  · have hle := List.length_filter_le (fun v => v.null) l
    have hne : (l.filter fun v => v.null).length ≠ l.length := fun e => by
      have := (List.length_filter_eq_length_iff).1 e v hv
      rw [h] at this; cases this
    omega
theorem leaf_sound {ty : Int} {d : Nod} {l : List Val} {v : Val} (hv : v ∈ l) (h1 : 1 ≤ d.op) (h8 : d.op ≤ 8) : (leafS ty d (zoneF ty l)).has (leafT ty d v) = true := by
  obtain ⟨f1, f2⟩ := zfacts (ty := ty) hv
  by_cases o8 : d.op = 8
  · have e1 : leafS ty d (zoneF ty l) = ⟨decide ((zoneF ty l).nulls < (zoneF ty l).rows), decide (0 < (zoneF ty l).nulls), false⟩ := by unfold leafS; rw [if_pos o8]
    have e2 : leafT ty d v = b2t v.null := by unfold leafT; rw [if_pos o8]
    rw [e1, e2]
    cases hn : v.null with
    | true => simp [TS.has, b2t, f1 hn]
    | false => simp [TS.has, b2t, f2 hn]
  · cases hn : v.null with
    | true =>
      have e2 : leafT ty d v = 2 := by unfold leafT; rw [if_neg o8, if_pos hn]
      have hz := f1 hn
      rw [e2]
      unfold leafS
      rw [if_neg o8]
      split
      · split <;> simp [TS.has, hz]
      · simp [TS.has, hz]
    | false =>
      have hs := f2 hn
      have E := (zinv ty l).some ⟨v, hv, hn⟩
      have lo := E.low v hv hn
      have hi := E.hiw v hv hn
      have key : ∀ x : Val, (cmpV ty v x ≤ 0 → cmpV ty (zoneF ty l).min x ≤ 0) ∧ (cmpV ty v x < 0 → cmpV ty (zoneF ty l).min x < 0) ∧ (0 ≤ cmpV ty v x → 0 ≤ cmpV ty (zoneF ty l).max x) ∧ (0 < cmpV ty v x → 0 < cmpV ty (zoneF ty l).max x) ∧ (cmpV ty v x ≠ 0 → ¬ (cmpV ty (zoneF ty l).min x = 0 ∧ cmpV ty (zoneF ty l).max x = 0)) := by
        intro x
        have a1 := cmpV_le ty v x
        have a2 := cmpV_ge ty v x
        have b1 := cmpV_le ty (zoneF ty l).min x
        have b2 := cmpV_ge ty (zoneF ty l).min x
        have c1 := cmpV_le ty (zoneF ty l).max x
        have c2 := cmpV_ge ty (zoneF ty l).max x
        refine ⟨fun h => b1.2 (leV_trans lo (a1.1 h)), fun h => ?_, fun h => c2.2 (leV_trans (a2.1 h) hi), fun h => ?_, fun h ⟨p, q⟩ => ?_⟩
        · rcases (by omega : cmpV ty (zoneF ty l).min x < 0 ∨ 0 ≤ cmpV ty (zoneF ty l).min x) with k | k
          · exact k
          · have := a2.2 (leV_trans (b2.1 k) lo); omega
        · rcases (by omega : 0 < cmpV ty (zoneF ty l).max x ∨ cmpV ty (zoneF ty l).max x ≤ 0) with k | k
          · exact k
          · have := a1.2 (leV_trans hi (c1.1 k)); omega
        · have r1 := a2.2 (leV_trans (b2.1 (by omega)) lo)
          have r2 := a1.2 (leV_trans hi (c1.1 (by omega)))
          omega
      by_cases o7 : d.op = 7
      · have e1 : leafS ty d (zoneF ty l) = ⟨(listS ty (zoneF ty l) d.ls).f, (listS ty (zoneF ty l) d.ls).t, decide (0 < (zoneF ty l).nulls) || (listS ty (zoneF ty l) d.ls).u⟩ := by unfold leafS; rw [if_neg o8, if_pos hs, if_pos o7]
        have am : ∀ (ls : List Val) (f n : Bool), amongF ty v ls (f, n) = (f || (ls.any fun x => !x.null && decide (cmpV ty v x = 0)), n || ls.any fun x => x.null) := by
          intro ls
          induction ls with
          | nil => intro f n; simp [amongF]
          | cons x r ih => intro f n; rw [amongF, ih]; simp [Bool.or_assoc]
        have e2 := leafT_in (fb := d.ls.any fun x => !x.null && decide (cmpV ty v x = 0)) (nb := d.ls.any fun x => x.null) (ty := ty) (d := d) (v := v) o8 (by omega) hn (by rw [am]; simp)
        rw [e1, e2]
        cases hf : (d.ls.any fun x => !x.null && decide (cmpV ty v x = 0)) with
        | true =>
          rw [List.any_eq_true] at hf
          obtain ⟨x, hx, hc⟩ := hf
          simp at hc
          have hy : yesF ty (zoneF ty l) d.ls = true := by
            unfold yesF
            rw [List.any_eq_true]
            have k1 := (key x).1 (by omega)
            have k2 := (key x).2.2.1 (by omega)
            exact ⟨x, hx, by simp [canF, canK, hc.1, k1, k2]⟩
          simp [TS.has, b2t, listS, hy]
        | false =>
          have ha : allF ty (zoneF ty l) d.ls = false := by
            unfold allF
            rw [Bool.eq_false_iff]
            intro h
            rw [List.any_eq_true] at h
            obtain ⟨x, hx, hc⟩ := h
            rw [List.any_eq_false] at hf
            have hfx := hf x hx
            simp [canF, canK] at hc
            simp [hc.1] at hfx
            exact (key x).2.2.2.2 hfx ⟨hc.2.1, hc.2.2⟩
          cases hnl : (d.ls.any fun x => x.null) with
          | true => simp [TS.has, listS, ha, nulF, hnl]
          | false => simp [TS.has, b2t, listS, ha, nulF, hnl]
      · by_cases h6 : d.op ≤ 6
        · have e1 : leafS ty d (zoneF ty l) = ⟨canF ty (oppF d.op) (zoneF ty l) d.v, canF ty d.op (zoneF ty l) d.v, decide (0 < (zoneF ty l).nulls)⟩ := by unfold leafS; rw [if_neg o8, if_pos hs, if_neg o7]
          have e2 : leafT ty d v = b2t (holdsB d.op (cmpV ty v d.v)) := by unfold leafT; rw [if_neg o8, if_neg (by rw [hn]; decide), if_pos h6]
          rw [e1, e2]
          obtain ⟨k1, k2, k3, k4, k5⟩ := key d.v
          unfold canF
          generalize cmpV ty v d.v = c at *
          generalize cmpV ty (zoneF ty l).min d.v = a at *
          generalize cmpV ty (zoneF ty l).max d.v = b at *
          cases hh : holdsB d.op c with
          | true =>
            show canK d.op a b = true
            rcases ops6 h1 h6 with q | q | q | q | q | q <;> rw [q] at hh ⊢ <;> simp [holdsB] at hh <;> simp [canK]
            · exact ⟨k1 (by omega), k3 (by omega)⟩
            · have := k5 hh; omega
            · exact k2 hh
            · exact k1 hh
            · exact k4 hh
            · exact k3 hh
          | false =>
            show canK (oppF d.op) a b = true
            rcases ops6 h1 h6 with q | q | q | q | q | q <;> rw [q] at hh ⊢ <;> simp [holdsB] at hh <;> simp [canK, oppF]
            · have := k5 hh; omega
            · exact ⟨k1 (by omega), k3 (by omega)⟩
            · exact k3 hh
            · exact k4 hh
            · exact k1 hh
            · exact k2 hh
        · omega
end Go.Proofs.Ytfemekmkmiljdaa
