/-
  INTERVAL.OF AND THE REFERENCE'S OF: of whatever predicate and column, their errors too ('ofE'). Conditions: the schema and the predicate lie in memory as 'ColsAt', 'NodsAt' say.
-/
import Derived.Test.YtjojnakgadfgmaaRof
set_option linter.unusedVariables false
set_option linter.unusedSimpArgs false
namespace Go.Proofs.Ytjojnakgadfgmaa
open Go.RowKit
def ofE (cs : List Col) (key : Int) (ns : List Nod) (col : Int) : Bnd × Int :=
  if ¬ predF cs key ns = 0 then (bZero, predF cs key ns) else if col < 0 then (bZero, 4) else match cs[col.toNat]? with
    | some c => (outG c.ty col ns, 0)
    | none => (bZero, 4)
def ofV (r : Bnd × Int) : Value := .tuple #[.agg (bndC r.1).toArray, .int .i64 r.2]
set_option maxRecDepth 8000 in
set_option maxHeartbeats 1000000 in
theorem of_err (cv : Value) (cs : List Col) (key : Int) (nv : Value) (ns : List Nod) (col : Int) (w : World) (hc : ColsAt w w.heap.size cv cs) (hn : NodsAt w w.heap.size nv ns) (hp : ¬ predF cs key ns = 0) :
    Calls Try.prog 24 #[.agg #[cv, .int .i64 key], nv, .int .i64 col] w fun e w' => e = .returned (.tuple #[.agg #[.bool false, .bool false, .bool false, .bool false, .bool false, .int .i64 0, .string ⟨#[]⟩, .bool false, .int .i64 0, .string ⟨#[]⟩], .int .i64 (predF cs key ns)]) ∧ Below w.heap.size w w' := by
  obtain ⟨ca, cc, rfl⟩ := cols_end hc
  obtain ⟨nc, hl⟩ : ∃ nc, cs.length = nc := ⟨_, rfl⟩
  obtain ⟨na, pc, rfl⟩ := nods_end hn
  obtain ⟨m, hm⟩ : ∃ m, ns.length = m := ⟨_, rfl⟩
  obtain ⟨E, hE⟩ : ∃ E, predF cs key ns = E := ⟨_, rfl⟩
  rw [hl] at hc ⊢
  rw [hm] at hn ⊢
  rw [hE] at hp ⊢
  have PC := Lib.hid (fun (W : World) (hb : Below w.heap.size w W) => (by have q := predCheck_any _ cs key _ ns W (hc.mono hb hb.size) (hn.mono hb hb.size); rw [hE] at q; exact q : Calls Try.prog 39 #[.agg #[.slice ca nc cc, .int .i64 key], .slice na m pc] W fun e w' => e = .returned (.int .i64 E) ∧ Below W.heap.size W w'))
  have t : (E != 0) = true := by simpa using hp
  clear hc hn hE hl hm hp
  go_enter Try.func24, Try.ntmps24
  go_wp2_with (go_at_call 39; refine (PC.out _ (by repeat (first | with_reducible exact Below.refl _ _ | with_reducible assumption | with_reducible refine Below.al ?_ _ | with_reducible refine Below.on ?_ _ | with_reducible refine Below.st ?_ (by first | assumption | (simp; done) | (simp; omega)) _ | with_reducible refine Below.drew ?_))).mono ?_; rintro e w1 ⟨rfl, hb1⟩; obtain ⟨x1, rfl⟩ := Ext.of hb1; have z0 : w.heap.size < x1.it.heap.size := x1.lt (by simp; omega); have z1 : w.heap.size + 1 < x1.it.heap.size := x1.lt (by simp))
  exact bodyPost_ret (v := .tuple #[.agg #[.bool false, .bool false, .bool false, .bool false, .bool false, .int .i64 0, .string ⟨#[]⟩, .bool false, .int .i64 0, .string ⟨#[]⟩], .int .i64 E]) (by simp (maxDischargeDepth := 5) [results, Try.results24, go_sem, *]) rfl (⟨rfl, by repeat (first | with_reducible exact Below.refl _ _ | with_reducible assumption | with_reducible refine Below.al ?_ _ | with_reducible refine Below.on ?_ _ | with_reducible refine Below.st ?_ (by first | assumption | (simp; done) | (simp; omega)) _ | with_reducible refine Below.drew ?_)⟩)
set_option maxRecDepth 8000 in
set_option maxHeartbeats 1000000 in
theorem of_rng (cv : Value) (cs : List Col) (key : Int) (nv : Value) (ns : List Nod) (col : Int) (w : World) (hc : ColsAt w w.heap.size cv cs) (hn : NodsAt w w.heap.size nv ns) (hp : predF cs key ns = 0) (hr : col < 0 ∨ (cs.length : Int) ≤ col) :
    Calls Try.prog 24 #[.agg #[cv, .int .i64 key], nv, .int .i64 col] w fun e w' => e = .returned (.tuple #[.agg #[.bool false, .bool false, .bool false, .bool false, .bool false, .int .i64 0, .string ⟨#[]⟩, .bool false, .int .i64 0, .string ⟨#[]⟩], .int .i64 4]) ∧ Below w.heap.size w w' := by
  obtain ⟨ca, cc, rfl⟩ := cols_end hc
  obtain ⟨nc, hl⟩ : ∃ nc, cs.length = nc := ⟨_, rfl⟩
  obtain ⟨na, pc, rfl⟩ := nods_end hn
  obtain ⟨m, hm⟩ : ∃ m, ns.length = m := ⟨_, rfl⟩
  obtain ⟨E, hE⟩ : ∃ E, predF cs key ns = E := ⟨_, rfl⟩
  rw [hl] at hc ⊢
  rw [hm] at hn ⊢
  rw [hE] at hp
  have PC := Lib.hid (fun (W : World) (hb : Below w.heap.size w W) => (by have q := predCheck_any _ cs key _ ns W (hc.mono hb hb.size) (hn.mono hb hb.size); rw [hE] at q; exact q : Calls Try.prog 39 #[.agg #[.slice ca nc cc, .int .i64 key], .slice na m pc] W fun e w' => e = .returned (.int .i64 E) ∧ Below W.heap.size W w'))
  rw [hl] at hr
  subst hp
  clear hc hn hE hl hm
  by_cases h0 : col < 0
  · clear hr
    go_enter Try.func24, Try.ntmps24
    go_wp2_with (go_at_call 39; refine (PC.out _ (by repeat (first | with_reducible exact Below.refl _ _ | with_reducible assumption | with_reducible refine Below.al ?_ _ | with_reducible refine Below.on ?_ _ | with_reducible refine Below.st ?_ (by first | assumption | (simp; done) | (simp; omega)) _ | with_reducible refine Below.drew ?_))).mono ?_; rintro e w1 ⟨rfl, hb1⟩; obtain ⟨x1, rfl⟩ := Ext.of hb1; have z0 : w.heap.size < x1.it.heap.size := x1.lt (by simp; omega); have z1 : w.heap.size + 1 < x1.it.heap.size := x1.lt (by simp))
    exact bodyPost_ret (v := .tuple #[.agg #[.bool false, .bool false, .bool false, .bool false, .bool false, .int .i64 0, .string ⟨#[]⟩, .bool false, .int .i64 0, .string ⟨#[]⟩], .int .i64 4]) (by simp (maxDischargeDepth := 5) [results, Try.results24, go_sem, *]) rfl (⟨rfl, by repeat (first | with_reducible exact Below.refl _ _ | with_reducible assumption | with_reducible refine Below.al ?_ _ | with_reducible refine Below.on ?_ _ | with_reducible refine Below.st ?_ (by first | assumption | (simp; done) | (simp; omega)) _ | with_reducible refine Below.drew ?_)⟩)
  · have h1 : (nc : Int) ≤ col := by omega
    have h1' : ¬ col < (nc : Int) := by omega
    clear hr
    go_enter Try.func24, Try.ntmps24
    go_wp2_with (go_at_call 39; refine (PC.out _ (by repeat (first | with_reducible exact Below.refl _ _ | with_reducible assumption | with_reducible refine Below.al ?_ _ | with_reducible refine Below.on ?_ _ | with_reducible refine Below.st ?_ (by first | assumption | (simp; done) | (simp; omega)) _ | with_reducible refine Below.drew ?_))).mono ?_; rintro e w1 ⟨rfl, hb1⟩; obtain ⟨x1, rfl⟩ := Ext.of hb1; have z0 : w.heap.size < x1.it.heap.size := x1.lt (by simp; omega); have z1 : w.heap.size + 1 < x1.it.heap.size := x1.lt (by simp))
    exact bodyPost_ret (v := .tuple #[.agg #[.bool false, .bool false, .bool false, .bool false, .bool false, .int .i64 0, .string ⟨#[]⟩, .bool false, .int .i64 0, .string ⟨#[]⟩], .int .i64 4]) (by simp (maxDischargeDepth := 5) [results, Try.results24, go_sem, *]) rfl (⟨rfl, by repeat (first | with_reducible exact Below.refl _ _ | with_reducible assumption | with_reducible refine Below.al ?_ _ | with_reducible refine Below.on ?_ _ | with_reducible refine Below.st ?_ (by first | assumption | (simp; done) | (simp; omega)) _ | with_reducible refine Below.drew ?_)⟩)
theorem of_any (cv : Value) (cs : List Col) (key : Int) (nv : Value) (ns : List Nod) (col : Int) (w : World) (hc : ColsAt w w.heap.size cv cs) (hn : NodsAt w w.heap.size nv ns) :
    Calls Try.prog 24 #[.agg #[cv, .int .i64 key], nv, .int .i64 col] w fun e w' => e = .returned (ofV (ofE cs key ns col)) ∧ Below w.heap.size w w' := by
  by_cases hp : predF cs key ns = 0
  · by_cases h0 : col < 0
    · have e : ofE cs key ns col = (bZero, 4) := by unfold ofE; rw [if_neg (by simpa using hp), if_pos h0]
      rw [e]; exact of_rng cv cs key nv ns col w hc hn hp (.inl h0)
    · obtain ⟨c, rfl⟩ : ∃ c : Nat, col = c := ⟨col.toNat, by omega⟩
      by_cases hcl : c < cs.length
      · have e : ofE cs key ns c = (outG (cs[c]'hcl).ty c ns, 0) := by unfold ofE; rw [if_neg (by simpa using hp), if_neg h0]; simp only [Int.toNat_natCast, List.getElem?_eq_getElem hcl]
        rw [e]; exact ofG_ok cv cs key nv ns c w hc hn hp hcl
      · have e : ofE cs key ns c = (bZero, 4) := by unfold ofE; rw [if_neg (by simpa using hp), if_neg h0]; simp only [Int.toNat_natCast, List.getElem?_eq_none (Nat.le_of_not_lt hcl)]
        rw [e]; exact of_rng cv cs key nv ns c w hc hn hp (.inr (by omega))
  · have e : ofE cs key ns col = (bZero, predF cs key ns) := by unfold ofE; rw [if_pos hp]
    rw [e]; exact of_err cv cs key nv ns col w hc hn hp
set_option maxRecDepth 8000 in
set_option maxHeartbeats 1000000 in
theorem rof_err (cv : Value) (cs : List Col) (key : Int) (nv : Value) (ns : List Nod) (col : Int) (w : World) (hc : ColsAt w w.heap.size cv cs) (hn : NodsAt w w.heap.size nv ns) (hp : ¬ predF cs key ns = 0) :
    Calls Try.prog 28 #[.agg #[cv, .int .i64 key], nv, .int .i64 col] w fun e w' => e = .returned (.tuple #[.agg #[.bool false, .bool false, .bool false, .bool false, .bool false, .int .i64 0, .string ⟨#[]⟩, .bool false, .int .i64 0, .string ⟨#[]⟩], .int .i64 (predF cs key ns)]) ∧ Below w.heap.size w w' := by
  obtain ⟨ca, cc, rfl⟩ := cols_end hc
  obtain ⟨nc, hl⟩ : ∃ nc, cs.length = nc := ⟨_, rfl⟩
  obtain ⟨na, pc, rfl⟩ := nods_end hn
  obtain ⟨m, hm⟩ : ∃ m, ns.length = m := ⟨_, rfl⟩
  obtain ⟨E, hE⟩ : ∃ E, predF cs key ns = E := ⟨_, rfl⟩
  rw [hl] at hc ⊢
  rw [hm] at hn ⊢
  rw [hE] at hp ⊢
  have PC := Lib.hid (fun (W : World) (hb : Below w.heap.size w W) => (by have q := refPredCheck_any _ cs key _ ns W (hc.mono hb hb.size) (hn.mono hb hb.size); rw [hE] at q; exact q : Calls Try.prog 42 #[.agg #[.slice ca nc cc, .int .i64 key], .slice na m pc] W fun e w' => e = .returned (.int .i64 E) ∧ Below W.heap.size W w'))
  have t : (E != 0) = true := by simpa using hp
  clear hc hn hE hl hm hp
  go_enter Try.func28, Try.ntmps28
  go_wp2_with (go_at_call 42; refine (PC.out _ (by repeat (first | with_reducible exact Below.refl _ _ | with_reducible assumption | with_reducible refine Below.al ?_ _ | with_reducible refine Below.on ?_ _ | with_reducible refine Below.st ?_ (by first | assumption | (simp; done) | (simp; omega)) _ | with_reducible refine Below.drew ?_))).mono ?_; rintro e w1 ⟨rfl, hb1⟩; obtain ⟨x1, rfl⟩ := Ext.of hb1; have z0 : w.heap.size < x1.it.heap.size := x1.lt (by simp; omega); have z1 : w.heap.size + 1 < x1.it.heap.size := x1.lt (by simp))
  exact bodyPost_ret (v := .tuple #[.agg #[.bool false, .bool false, .bool false, .bool false, .bool false, .int .i64 0, .string ⟨#[]⟩, .bool false, .int .i64 0, .string ⟨#[]⟩], .int .i64 E]) (by simp (maxDischargeDepth := 5) [results, Try.results28, go_sem, *]) rfl (⟨rfl, by repeat (first | with_reducible exact Below.refl _ _ | with_reducible assumption | with_reducible refine Below.al ?_ _ | with_reducible refine Below.on ?_ _ | with_reducible refine Below.st ?_ (by first | assumption | (simp; done) | (simp; omega)) _ | with_reducible refine Below.drew ?_)⟩)
set_option maxRecDepth 8000 in
set_option maxHeartbeats 1000000 in
theorem rof_rng (cv : Value) (cs : List Col) (key : Int) (nv : Value) (ns : List Nod) (col : Int) (w : World) (hc : ColsAt w w.heap.size cv cs) (hn : NodsAt w w.heap.size nv ns) (hp : predF cs key ns = 0) (hr : col < 0 ∨ (cs.length : Int) ≤ col) :
    Calls Try.prog 28 #[.agg #[cv, .int .i64 key], nv, .int .i64 col] w fun e w' => e = .returned (.tuple #[.agg #[.bool false, .bool false, .bool false, .bool false, .bool false, .int .i64 0, .string ⟨#[]⟩, .bool false, .int .i64 0, .string ⟨#[]⟩], .int .i64 4]) ∧ Below w.heap.size w w' := by
  obtain ⟨ca, cc, rfl⟩ := cols_end hc
  obtain ⟨nc, hl⟩ : ∃ nc, cs.length = nc := ⟨_, rfl⟩
  obtain ⟨na, pc, rfl⟩ := nods_end hn
  obtain ⟨m, hm⟩ : ∃ m, ns.length = m := ⟨_, rfl⟩
  obtain ⟨E, hE⟩ : ∃ E, predF cs key ns = E := ⟨_, rfl⟩
  rw [hl] at hc ⊢
  rw [hm] at hn ⊢
  rw [hE] at hp
  have PC := Lib.hid (fun (W : World) (hb : Below w.heap.size w W) => (by have q := refPredCheck_any _ cs key _ ns W (hc.mono hb hb.size) (hn.mono hb hb.size); rw [hE] at q; exact q : Calls Try.prog 42 #[.agg #[.slice ca nc cc, .int .i64 key], .slice na m pc] W fun e w' => e = .returned (.int .i64 E) ∧ Below W.heap.size W w'))
  rw [hl] at hr
  subst hp
  clear hc hn hE hl hm
  by_cases h0 : col < 0
  · clear hr
    go_enter Try.func28, Try.ntmps28
    go_wp2_with (go_at_call 42; refine (PC.out _ (by repeat (first | with_reducible exact Below.refl _ _ | with_reducible assumption | with_reducible refine Below.al ?_ _ | with_reducible refine Below.on ?_ _ | with_reducible refine Below.st ?_ (by first | assumption | (simp; done) | (simp; omega)) _ | with_reducible refine Below.drew ?_))).mono ?_; rintro e w1 ⟨rfl, hb1⟩; obtain ⟨x1, rfl⟩ := Ext.of hb1; have z0 : w.heap.size < x1.it.heap.size := x1.lt (by simp; omega); have z1 : w.heap.size + 1 < x1.it.heap.size := x1.lt (by simp))
    exact bodyPost_ret (v := .tuple #[.agg #[.bool false, .bool false, .bool false, .bool false, .bool false, .int .i64 0, .string ⟨#[]⟩, .bool false, .int .i64 0, .string ⟨#[]⟩], .int .i64 4]) (by simp (maxDischargeDepth := 5) [results, Try.results28, go_sem, *]) rfl (⟨rfl, by repeat (first | with_reducible exact Below.refl _ _ | with_reducible assumption | with_reducible refine Below.al ?_ _ | with_reducible refine Below.on ?_ _ | with_reducible refine Below.st ?_ (by first | assumption | (simp; done) | (simp; omega)) _ | with_reducible refine Below.drew ?_)⟩)
  · have h1 : (nc : Int) ≤ col := by omega
    have h1' : ¬ col < (nc : Int) := by omega
    clear hr
    go_enter Try.func28, Try.ntmps28
    go_wp2_with (go_at_call 42; refine (PC.out _ (by repeat (first | with_reducible exact Below.refl _ _ | with_reducible assumption | with_reducible refine Below.al ?_ _ | with_reducible refine Below.on ?_ _ | with_reducible refine Below.st ?_ (by first | assumption | (simp; done) | (simp; omega)) _ | with_reducible refine Below.drew ?_))).mono ?_; rintro e w1 ⟨rfl, hb1⟩; obtain ⟨x1, rfl⟩ := Ext.of hb1; have z0 : w.heap.size < x1.it.heap.size := x1.lt (by simp; omega); have z1 : w.heap.size + 1 < x1.it.heap.size := x1.lt (by simp))
    exact bodyPost_ret (v := .tuple #[.agg #[.bool false, .bool false, .bool false, .bool false, .bool false, .int .i64 0, .string ⟨#[]⟩, .bool false, .int .i64 0, .string ⟨#[]⟩], .int .i64 4]) (by simp (maxDischargeDepth := 5) [results, Try.results28, go_sem, *]) rfl (⟨rfl, by repeat (first | with_reducible exact Below.refl _ _ | with_reducible assumption | with_reducible refine Below.al ?_ _ | with_reducible refine Below.on ?_ _ | with_reducible refine Below.st ?_ (by first | assumption | (simp; done) | (simp; omega)) _ | with_reducible refine Below.drew ?_)⟩)
theorem rof_any (cv : Value) (cs : List Col) (key : Int) (nv : Value) (ns : List Nod) (col : Int) (w : World) (hc : ColsAt w w.heap.size cv cs) (hn : NodsAt w w.heap.size nv ns) :
    Calls Try.prog 28 #[.agg #[cv, .int .i64 key], nv, .int .i64 col] w fun e w' => e = .returned (ofV (ofE cs key ns col)) ∧ Below w.heap.size w w' := by
  by_cases hp : predF cs key ns = 0
  · by_cases h0 : col < 0
    · have e : ofE cs key ns col = (bZero, 4) := by unfold ofE; rw [if_neg (by simpa using hp), if_pos h0]
      rw [e]; exact rof_rng cv cs key nv ns col w hc hn hp (.inl h0)
    · obtain ⟨c, rfl⟩ : ∃ c : Nat, col = c := ⟨col.toNat, by omega⟩
      by_cases hcl : c < cs.length
      · have e : ofE cs key ns c = (outG (cs[c]'hcl).ty c ns, 0) := by unfold ofE; rw [if_neg (by simpa using hp), if_neg h0]; simp only [Int.toNat_natCast, List.getElem?_eq_getElem hcl]
        rw [e]; exact rofG_ok cv cs key nv ns c w hc hn hp hcl
      · have e : ofE cs key ns c = (bZero, 4) := by unfold ofE; rw [if_neg (by simpa using hp), if_neg h0]; simp only [Int.toNat_natCast, List.getElem?_eq_none (Nat.le_of_not_lt hcl)]
        rw [e]; exact rof_rng cv cs key nv ns c w hc hn hp (.inr (by omega))
  · have e : ofE cs key ns col = (bZero, predF cs key ns) := by unfold ofE; rw [if_pos hp]
    rw [e]; exact rof_err cv cs key nv ns col w hc hn hp
end Go.Proofs.Ytjojnakgadfgmaa
