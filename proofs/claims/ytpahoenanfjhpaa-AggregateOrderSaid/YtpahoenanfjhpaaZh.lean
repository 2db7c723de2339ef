/-
  CHAPTER 26: Aga, App (several texts in one). Conditions: each theorem states its own.
-/
import Derived.Test.YtpahoenanfjhpaaZf
import Derived.Test.YtpahoenanfjhpaaZb
import Derived.Test.YtpahoenanfjhpaaZd
import Derived.Laws.OwnMore
import Derived.Maps.AppendAt
set_option linter.unusedVariables false
set_option linter.unusedSimpArgs false
namespace Go.Proofs.Ytpahoenanfjhpaa
open Go.RowKit
structure Ag where
  op : Int
  col : Int
/-- In world w the value v is a slice of the aggregates, below block B. -/
def AgsAt (w : World) (B : Nat) (v : Value) (ags : List Ag) : Prop :=
  ags.length ≤ 9223372036854775807 ∧ ((ags = [] ∧ ∃ a c, v = .slice a 0 c) ∨ ∃ b o c, v = .slice (some ⟨b, o, none⟩) ags.length c ∧ ags.length ≤ c ∧ b < B ∧ ∀ i (h : i < ags.length), w.cell? ⟨b, o + i * 2, none⟩ = some (.int .i64 (ags[i]'h).op) ∧ w.cell? ⟨b, o + i * 2 + 1, none⟩ = some (.int .i64 (ags[i]'h).col))
theorem ags_end {w : World} {B : Nat} {v : Value} {l : List Ag} (h : AgsAt w B v l) : ∃ a c, v = .slice a l.length c := by
  rcases h.2 with ⟨rfl, a, c, rfl⟩ | ⟨b, o, c, rfl, _⟩
  · exact ⟨a, c, rfl⟩
  · exact ⟨_, c, rfl⟩
theorem ags_in {w : World} {B : Nat} {a : Option Addr} {n c : Nat} {l : List Ag} (h : AgsAt w B (.slice a n c) l) {i : Nat} (hi : i < l.length) : ∃ b o, a = some ⟨b, o, none⟩ ∧ l.length ≤ c ∧ b < B ∧ w.cell? ⟨b, o + i * 2, none⟩ = some (.int .i64 (l[i]'hi).op) ∧ w.cell? ⟨b, o + i * 2 + 1, none⟩ = some (.int .i64 (l[i]'hi).col) := by
  rcases h.2 with ⟨rfl, _⟩ | ⟨b, o, c', hv, hc, hb, hr⟩
  · exact absurd hi (by simp)
  · injection hv with h1 h2 h3
    subst h1 h3
    exact ⟨b, o, rfl, hc, hb, hr i hi⟩
theorem AgsAt.mono {w w' : World} {B B' : Nat} {v : Value} {l : List Ag} (h : AgsAt w B v l) (hb : Below B w w') (hB : B ≤ B') : AgsAt w' B' v l := by
  refine ⟨h.1, h.2.imp id ?_⟩
  rintro ⟨b, o, c, h1, h2, h3, hr⟩
  exact ⟨b, o, c, h1, h2, Nat.lt_of_lt_of_le h3 hB, fun i hi => ⟨(hb.cell (p := ⟨b, _, none⟩) h3).trans (hr i hi).1, (hb.cell (p := ⟨b, _, none⟩) h3).trans (hr i hi).2⟩⟩
/-- The first error of an aggregate. -/
def agE (cs : List Col) (a : Ag) : Int :=
  if a.op < 1 ∨ 5 < a.op ∨ (a.op = 1 ∧ ¬ a.col = 0) then 1 else if a.col < 0 ∨ (cs.length : Int) ≤ a.col then 4 else if a.op = 3 ∧ ¬ colTy cs a.col = 1 ∧ ¬ colTy cs a.col = 5 then 11 else 0
def agsE (cs : List Col) : List Ag → Int
  | [] => 0
  | a :: l => if agE cs a = 0 then agsE cs l else agE cs a
theorem agsE_ok {cs : List Col} {l : List Ag} {k : Nat} (h : k < l.length) (h0 : agE cs (l[k]'h) = 0) : agsE cs (l.drop k) = agsE cs (l.drop (k + 1)) := by
  rw [List.drop_eq_getElem_cons h]
  show (if agE cs (l[k]'h) = 0 then _ else _) = _
  rw [if_pos h0]
theorem agsE_bad {cs : List Col} {l : List Ag} {k : Nat} (h : k < l.length) (h0 : ¬ agE cs (l[k]'h) = 0) : agsE cs (l.drop k) = agE cs (l[k]'h) := by
  rw [List.drop_eq_getElem_cons h]
  show (if agE cs (l[k]'h) = 0 then _ else _) = _
  rw [if_neg h0]
theorem colTy_at {cs : List Col} {K : Nat} (h : K < cs.length) : colTy cs (K : Int) = (cs[K]'h).ty := by
  unfold colTy
  rw [Int.toNat_natCast, List.getElem?_eq_getElem h]
set_option maxRecDepth 8000 in
set_option maxHeartbeats 2000000 in
theorem agg_any (cv : Value) (cs : List Col) (key op col : Int) (w : World) (hc : ColsAt w w.heap.size cv cs) :
    Calls Try.prog 56 #[.agg #[cv, .int .i64 key], .agg #[.int .i64 op, .int .i64 col]] w fun e w' => e = .returned (.int .i64 (agE cs ⟨op, col⟩)) ∧ Below w.heap.size w w' := by
  obtain ⟨ca, cc, rfl⟩ := cols_end hc
  obtain ⟨nc, hnc⟩ : ∃ n, cs.length = n := ⟨_, rfl⟩
  have HC := Lib.hid hc
  have HNC := Lib.hid hnc
  have nc63 := hc.1
  rw [hnc] at nc63 HC ⊢
  clear hc hnc
  obtain ⟨R, hR⟩ : ∃ R, agE cs ⟨op, col⟩ = R := ⟨_, rfl⟩
  rw [hR]
  have HR := Lib.hid hR
  clear hR
  by_cases h1 : op < 1
  · obtain rfl : R = 1 := by rw [← HR.out]; unfold agE; rw [if_pos (.inl h1)]
    go_enter Try.func56, Try.ntmps56
    go_wp2
    exact bodyPost_ret (v := .int .i64 1) (by simp [results, Try.results56, go_sem, *]) rfl (⟨rfl, by repeat (first | with_reducible exact Below.refl _ _ | with_reducible assumption | with_reducible refine Below.al ?_ _ | with_reducible refine Below.on ?_ _ | with_reducible refine Below.st ?_ (by first | assumption | (simp; done) | (simp; omega)) _ | with_reducible refine Below.drew ?_)⟩)
  by_cases h2 : 5 < op
  · obtain rfl : R = 1 := by rw [← HR.out]; unfold agE; rw [if_pos (.inr (.inl h2))]
    go_enter Try.func56, Try.ntmps56
    go_wp2
    exact bodyPost_ret (v := .int .i64 1) (by simp [results, Try.results56, go_sem, *]) rfl (⟨rfl, by repeat (first | with_reducible exact Below.refl _ _ | with_reducible assumption | with_reducible refine Below.al ?_ _ | with_reducible refine Below.on ?_ _ | with_reducible refine Below.st ?_ (by first | assumption | (simp; done) | (simp; omega)) _ | with_reducible refine Below.drew ?_)⟩)
  by_cases h3 : op = 1 ∧ ¬ col = 0
  · obtain rfl : R = 1 := by rw [← HR.out]; unfold agE; rw [if_pos (.inr (.inr h3))]
    obtain ⟨h3a, h3b⟩ := h3
    have b1 : (op == 1) = true := by simpa using h3a
    have b2 : (col != 0) = true := by simpa using h3b
    go_enter Try.func56, Try.ntmps56
    go_wp2
    exact bodyPost_ret (v := .int .i64 1) (by simp [results, Try.results56, go_sem, *]) rfl (⟨rfl, by repeat (first | with_reducible exact Below.refl _ _ | with_reducible assumption | with_reducible refine Below.al ?_ _ | with_reducible refine Below.on ?_ _ | with_reducible refine Below.st ?_ (by first | assumption | (simp; done) | (simp; omega)) _ | with_reducible refine Below.drew ?_)⟩)
  have N1 : ¬ (op < 1 ∨ 5 < op ∨ (op = 1 ∧ ¬ col = 0)) := by rintro (q | q | q) <;> contradiction
  by_cases h4 : col < 0
  · obtain rfl : R = 4 := by rw [← HR.out]; unfold agE; rw [if_neg N1, if_pos (.inl h4)]
    have b1 : (op == 1) = false := by
      simp only [beq_eq_false_iff_ne]; intro q; exact h3 ⟨q, by omega⟩
    clear h3 N1
    go_enter Try.func56, Try.ntmps56
    go_wp2
    exact bodyPost_ret (v := .int .i64 4) (by simp [results, Try.results56, go_sem, *]) rfl (⟨rfl, by repeat (first | with_reducible exact Below.refl _ _ | with_reducible assumption | with_reducible refine Below.al ?_ _ | with_reducible refine Below.on ?_ _ | with_reducible refine Below.st ?_ (by first | assumption | (simp; done) | (simp; omega)) _ | with_reducible refine Below.drew ?_)⟩)
  by_cases h5 : (nc : Int) ≤ col
  · obtain rfl : R = 4 := by rw [← HR.out]; unfold agE; rw [if_neg N1, if_pos (.inr (by rw [HNC.out]; exact h5))]
    by_cases h6 : op = 1
    · have b1 : (op == 1) = true := by simpa using h6
      have b2 : (col != 0) = false := by
        by_cases q : col = 0
        · simpa using q
        · exact absurd ⟨h6, q⟩ h3
      clear h3 N1
      go_enter Try.func56, Try.ntmps56
      go_wp2
      exact bodyPost_ret (v := .int .i64 4) (by simp [results, Try.results56, go_sem, *]) rfl (⟨rfl, by repeat (first | with_reducible exact Below.refl _ _ | with_reducible assumption | with_reducible refine Below.al ?_ _ | with_reducible refine Below.on ?_ _ | with_reducible refine Below.st ?_ (by first | assumption | (simp; done) | (simp; omega)) _ | with_reducible refine Below.drew ?_)⟩)
    · have b1 : (op == 1) = false := by simpa using h6
      clear h3 N1
      go_enter Try.func56, Try.ntmps56
      go_wp2
      exact bodyPost_ret (v := .int .i64 4) (by simp [results, Try.results56, go_sem, *]) rfl (⟨rfl, by repeat (first | with_reducible exact Below.refl _ _ | with_reducible assumption | with_reducible refine Below.al ?_ _ | with_reducible refine Below.on ?_ _ | with_reducible refine Below.st ?_ (by first | assumption | (simp; done) | (simp; omega)) _ | with_reducible refine Below.drew ?_)⟩)
  obtain ⟨K, rfl⟩ : ∃ K : Nat, col = (K : Int) := ⟨col.toNat, by omega⟩
  have hK : K < cs.length := by rw [HNC.out]; omega
  have N2 : ¬ ((K : Int) < 0 ∨ (cs.length : Int) ≤ (K : Int)) := by omega
  obtain ⟨b, o, rfl, _, hb, c0, c1, c2, c3⟩ := cols_in HC.out hK
  obtain ⟨c, hcv⟩ : ∃ c, cs[K]'hK = c := ⟨_, rfl⟩
  have hty := colTy_at hK
  rw [hcv] at c0 c1 c2 c3 hty
  have k1 : (K : Int) < (nc : Int) := by omega
  have k0 : (0 : Int) ≤ (K : Int) := by omega
  obtain ⟨B1, hB1⟩ : ∃ b : Bool, (op == 1) = b := ⟨_, rfl⟩
  have b12 : B1 = true → ((K : Int) != 0) = false := fun q => by
    by_cases q2 : (K : Int) = 0
    · simpa using q2
    · exact absurd ⟨by rw [q] at hB1; simpa using hB1, q2⟩ h3
  by_cases h7 : op = 3
  · obtain rfl : B1 = false := by rw [← hB1, h7]; rfl
    have b3 : (op == 3) = true := by simpa using h7
    by_cases h8 : c.ty = 1
    · obtain rfl : R = 0 := by rw [← HR.out]; unfold agE; rw [if_neg N1, if_neg N2, if_neg (by rintro ⟨_, q, _⟩; exact q (hty.trans h8))]
      have b4 : (c.ty != 1) = false := by simpa using h8
      clear h3 N1 N2 b12
      go_enter Try.func56, Try.ntmps56
      go_wp2
      exact bodyPost_ret (v := .int .i64 0) (by simp [results, Try.results56, go_sem, *]) rfl (⟨rfl, by repeat (first | with_reducible exact Below.refl _ _ | with_reducible assumption | with_reducible refine Below.al ?_ _ | with_reducible refine Below.on ?_ _ | with_reducible refine Below.st ?_ (by first | assumption | (simp; done) | (simp; omega)) _ | with_reducible refine Below.drew ?_)⟩)
    have b4 : (c.ty != 1) = true := by simpa using h8
    by_cases h9 : c.ty = 5
    · obtain rfl : R = 0 := by rw [← HR.out]; unfold agE; rw [if_neg N1, if_neg N2, if_neg (by rintro ⟨_, _, q⟩; exact q (hty.trans h9))]
      have b5 : (c.ty != 5) = false := by simpa using h9
      clear h3 N1 N2 b12
      go_enter Try.func56, Try.ntmps56
      go_wp2
      exact bodyPost_ret (v := .int .i64 0) (by simp [results, Try.results56, go_sem, *]) rfl (⟨rfl, by repeat (first | with_reducible exact Below.refl _ _ | with_reducible assumption | with_reducible refine Below.al ?_ _ | with_reducible refine Below.on ?_ _ | with_reducible refine Below.st ?_ (by first | assumption | (simp; done) | (simp; omega)) _ | with_reducible refine Below.drew ?_)⟩)
    · obtain rfl : R = 11 := by rw [← HR.out]; unfold agE; rw [if_neg N1, if_neg N2, if_pos ⟨h7, by rw [hty]; exact h8, by rw [hty]; exact h9⟩]
      have b5 : (c.ty != 5) = true := by simpa using h9
      clear h3 N1 N2 b12
      go_enter Try.func56, Try.ntmps56
      go_wp2
      exact bodyPost_ret (v := .int .i64 11) (by simp [results, Try.results56, go_sem, *]) rfl (⟨rfl, by repeat (first | with_reducible exact Below.refl _ _ | with_reducible assumption | with_reducible refine Below.al ?_ _ | with_reducible refine Below.on ?_ _ | with_reducible refine Below.st ?_ (by first | assumption | (simp; done) | (simp; omega)) _ | with_reducible refine Below.drew ?_)⟩)
  · obtain rfl : R = 0 := by rw [← HR.out]; unfold agE; rw [if_neg N1, if_neg N2, if_neg (by rintro ⟨q, _⟩; exact h7 q)]
    have b3 : (op == 3) = false := by simpa using h7
    cases B1 with
    | true =>
      have b2 := b12 rfl
      clear h3 N1 N2 b12
      go_enter Try.func56, Try.ntmps56
      go_wp2
      exact bodyPost_ret (v := .int .i64 0) (by simp [results, Try.results56, go_sem, *]) rfl (⟨rfl, by repeat (first | with_reducible exact Below.refl _ _ | with_reducible assumption | with_reducible refine Below.al ?_ _ | with_reducible refine Below.on ?_ _ | with_reducible refine Below.st ?_ (by first | assumption | (simp; done) | (simp; omega)) _ | with_reducible refine Below.drew ?_)⟩)
    | false =>
      clear h3 N1 N2 b12
      go_enter Try.func56, Try.ntmps56
      go_wp2
      exact bodyPost_ret (v := .int .i64 0) (by simp [results, Try.results56, go_sem, *]) rfl (⟨rfl, by repeat (first | with_reducible exact Below.refl _ _ | with_reducible assumption | with_reducible refine Below.al ?_ _ | with_reducible refine Below.on ?_ _ | with_reducible refine Below.st ?_ (by first | assumption | (simp; done) | (simp; omega)) _ | with_reducible refine Below.drew ?_)⟩)
end Go.Proofs.Ytpahoenanfjhpaa
namespace Go.Proofs.Ytpahoenanfjhpaa
open Go.RowKit
/-- In world w the value reads as the slice of m elements whose cells are the list. -/
def SrcRow (w : World) (xv : Value) (m size : Nat) (news : List Value) : Prop :=
  news.length = m * size ∧ (∀ u ∈ news, u.oneCell' = true) ∧ ((m = 0 ∧ ∃ a c, xv = .slice a 0 c) ∨ ∃ a c, xv = .slice (some a) m c ∧ ∀ j u, news[j]? = some u → w.cell? (a.add j) = some u)
theorem run_append_row {P : Program} {w : World} (base : Nat) (t ty e : TypeId) (i : TypeInfo) (z : Value) (size bytes : Nat) (ht : P.underlying t = some (.slice e)) (hi : P.info? e = some i) (hz : i.zero = some z) (hsize : i.size = size) (hby : i.bytes = bytes) (hzs : z.cells.size = size) (hsz : 0 < size)
    (v : Value) (n : Nat) (xs : List Value) (hown : w.ownsRow base e size v n xs) (xv : Value) (m : Nat) (news : List Value) (hx : SrcRow w xv m size news) (h63 : n + m ≤ maxLen) (hbytes : (n + m) * bytes ≤ 140737488355328) (hbase : base ≤ w.heap.size) :
    ∃ v' w', (Builtin.append_ #[t, t] ty #[v, xv]).run P w = .ok v' w' ∧ w'.ownsRow base e size v' (n + m) (xs ++ news) ∧ w.grownBy w' v.ownBlock ∧ (v'.ownBlock = v.ownBlock ∨ v'.ownBlock = some w.heap.size) := by
  obtain ⟨hl, h1, hx⟩ := hx
  rcases hx with ⟨rfl, a, c, rfl⟩ | ⟨a, c, rfl, hc⟩
  · have e0 : news = [] := List.eq_nil_of_length_eq_zero (by simpa using hl)
    subst e0
    cases a with
    | none =>
      refine ⟨v, w, ?_, by simpa using hown, ⟨rfl, rfl, rfl, Nat.le_refl _, fun _ _ _ => rfl⟩, .inl rfl⟩
      rcases hown.2 with ⟨rfl, rfl⟩ | ⟨g, cap, cur, rfl, _, _, hnc, _⟩
      · simp [Builtin.append_, run_underlying ht, sizeOf, typeInfo, hi, Builtin.lenOf, Builtin.firstCells]
      · simp [Builtin.append_, run_underlying ht, sizeOf, typeInfo, hi, Builtin.lenOf, Builtin.firstCells, hnc, storeCells]
    | some a =>
      obtain ⟨v', w', h1, h2, h3, _, h5⟩ := run_append_own_at (P := P) (w := w) base t ty e i z size bytes ht hi hz hsize hby hzs hsz v n xs hown a 0 c [] (by simp) (fun j u hj => by simp at hj) (fun u hu => by simp at hu) (by simpa using h63) (by simpa using hbytes) hbase
      exact ⟨v', w', h1, by simpa using h2, h3, h5⟩
  · obtain ⟨v', w', k1, h2, h3, _, h5⟩ := run_append_own_at (P := P) (w := w) base t ty e i z size bytes ht hi hz hsize hby hzs hsz v n xs hown a m c news hl hc h1 h63 hbytes hbase
    exact ⟨v', w', k1, h2, h3, h5⟩
theorem wpList_append_row {P : Program} {w : World} {ops : Array Oper} {rest : List Oper} {o : Oper} {a : Act} {Q : Exit → Act → World → Prop} (hw : Region.wanted o (yielded ops a.tmps) = true) (s x : Operand) (t : TypeId)
    (ho : o.op = .call { callee := .builtin .append, args := #[s, x], argTypes := #[t, t] })
    (base : Nat) (e : TypeId) (i : TypeInfo) (z : Value) (size bytes : Nat) (ht : P.underlying t = some (.slice e)) (hi : P.info? e = some i) (hz : i.zero = some z) (hsize : i.size = size) (hby : i.bytes = bytes) (hzs : z.cells.size = size) (hsz : 0 < size)
    (v : Value) (n : Nat) (xs : List Value) (hs : a.eval s = v) (hown : w.ownsRow base e size v n xs) (xv : Value) (m : Nat) (news : List Value) (hxv : a.eval x = xv) (hx : SrcRow w xv m size news) (h63 : n + m ≤ maxLen) (hbytes : (n + m) * bytes ≤ 140737488355328) (hbase : base ≤ w.heap.size)
    (h : ∀ v' w', w'.ownsRow base e size v' (n + m) (xs ++ news) → w.grownBy w' v.ownBlock → (v'.ownBlock = v.ownBlock ∨ v'.ownBlock = some w.heap.size) → wpList P ops Q rest (a.put o.dst v') w') : wpList P ops Q (o :: rest) a w := by
  refine wpList_step fun K hK => ?_
  rw [if_pos hw]
  obtain ⟨v', w', hr, h2, h3, h4⟩ := run_append_row (P := P) base t o.type e i z size bytes ht hi hz hsize hby hzs hsz v n xs hown xv m news hx h63 hbytes hbase
  unfold Oper.wp execOp
  simp only [ho, resolve, invoke, builtin, Sem.run_bind, Sem.run_pure, Result.andThen_ok, List.map_toArray, List.map_cons, List.map_nil, hs, hxv, hr]
  exact hK _ _ (h v' w' h2 h3 h4)
theorem add_nil (b o j : Nat) : (⟨b, o, none⟩ : Addr).add j = ⟨b, o + j, none⟩ := by unfold Addr.add; by_cases q : j = 0 <;> simp [q]
/-- A row of elements of k cells each. -/
theorem srcRow_of {α : Type} {w : World} {xv : Value} {k : Nat} (hk0 : 0 < k) (f : α → List Value) (hk : ∀ a, (f a).length = k) (h1 : ∀ a, ∀ u ∈ f a, u.oneCell' = true) (l : List α)
    (hx : (l = [] ∧ ∃ a c, xv = .slice a 0 c) ∨ ∃ b o c, xv = .slice (some ⟨b, o, none⟩) l.length c ∧ ∀ j (hj : j < l.length) i (u : Value), (f (l[j]'hj))[i]? = some u → w.cell? ⟨b, o + j * k + i, none⟩ = some u) : SrcRow w xv l.length k (l.flatMap f) := by
  refine ⟨flat_len f k hk l, ?_, ?_⟩
  · intro u hu
    obtain ⟨c, _, hc⟩ := List.mem_flatMap.1 hu
    exact h1 c u hc
  · rcases hx with ⟨rfl, h⟩ | ⟨b, o, c, rfl, h⟩
    · exact .inl ⟨rfl, h⟩
    · refine .inr ⟨_, c, rfl, fun j u hj => ?_⟩
      have hjl := (List.getElem?_eq_some_iff.1 hj).1
      rw [flat_len f k hk] at hjl
      have hd : j / k < l.length := Nat.div_lt_of_lt_mul (by rw [Nat.mul_comm]; exact hjl)
      have hm : j % k < k := Nat.mod_lt _ hk0
      have e : j = j / k * k + j % k := by rw [Nat.mul_comm]; exact (Nat.div_add_mod j k).symm
      have hg := flat_get f k hk l (j / k) (j % k) hd hm
      rw [← e, hj] at hg
      rw [add_nil]
      have := h (j / k) hd (j % k) u hg.symm
      rwa [Nat.add_assoc, ← e] at this
theorem vals_row {w : World} {B : Nat} {v : Value} {l : List Val} (h : ValsAt w B v l) : SrcRow w v l.length 3 (l.flatMap valC) := by
  refine srcRow_of (by decide) valC (fun _ => rfl) (fun a u hu => by simp [valC] at hu; rcases hu with rfl | rfl | rfl <;> rfl) l ?_
  rcases h.2 with ⟨rfl, h2⟩ | ⟨b, o, c, rfl, _, _, hc⟩
  · exact .inl ⟨rfl, h2⟩
  · refine .inr ⟨b, o, c, rfl, fun j hj i u hu => ?_⟩
    obtain ⟨k0, k1, k2⟩ := hc j hj
    rcases i with _ | _ | _ | i
    · simp [valC] at hu; rw [← hu]; exact k0
    · simp [valC] at hu; rw [← hu]; exact k1
    · simp [valC] at hu; rw [← hu]; exact k2
    · simp [valC] at hu
theorem vals_one {w : World} {B : Nat} {v : Value} {l : List Val} (h : ValsAt w B v l) : v.oneCell' = true := by obtain ⟨a, c, rfl⟩ := vals_end h; rfl
/-- The slices of the rows. -/
def Lvs (w : World) (B : Nat) (lvs : List Value) (rows : List (List Val)) : Prop := lvs.length = rows.length ∧ ∀ j (h : j < lvs.length) (h' : j < rows.length), ValsAt w B (lvs[j]'h) (rows[j]'(h'))
theorem Lvs.mono {w w' : World} {B B' : Nat} {ps : List Value} {rs : List (List Val)} (h : Lvs w B ps rs) (hb : Below B w w') (hB : B ≤ B') : Lvs w' B' ps rs := ⟨h.1, fun j h1 h2 => (h.2 j h1 h2).mono hb hB⟩
theorem Lvs.nil {w : World} {B : Nat} : Lvs w B [] [] := ⟨rfl, fun j h => absurd h (by simp)⟩
theorem Lvs.snoc {w : World} {B : Nat} {ps : List Value} {rs : List (List Val)} (h : Lvs w B ps rs) {v : Value} {r : List Val} (hv : ValsAt w B v r) : Lvs w B (ps ++ [v]) (rs ++ [r]) := by
  refine ⟨by simp [h.1], fun j hj hj' => ?_⟩
  rcases Nat.lt_or_ge j ps.length with q | q
  · have q' : j < rs.length := by rw [← h.1]; exact q
    rw [List.getElem_append_left q, List.getElem_append_left q']
    exact h.2 j q q'
  · obtain rfl : j = ps.length := by simp at hj; omega
    have e1 : (ps ++ [v])[ps.length]'hj = v := by simp
    have e2 : (rs ++ [r])[ps.length]'hj' = r := by simp [h.1]
    rw [e1, e2]
    exact hv
theorem Lvs.app {w : World} {B : Nat} {ps qs : List Value} {rs ts : List (List Val)} (h : Lvs w B ps rs) (k : Lvs w B qs ts) : Lvs w B (ps ++ qs) (rs ++ ts) := by
  refine ⟨by simp [h.1, k.1], fun j hj hj' => ?_⟩
  rcases Nat.lt_or_ge j ps.length with q | q
  · have q' : j < rs.length := by rw [← h.1]; exact q
    rw [List.getElem_append_left q, List.getElem_append_left q']
    exact h.2 j q q'
  · have q' : rs.length ≤ j := by rw [← h.1]; exact q
    rw [List.getElem_append_right q, List.getElem_append_right q']
    simp only [List.length_append] at hj hj'
    have e : j - ps.length = j - rs.length := by rw [h.1]
    have := k.2 (j - ps.length) (by omega) (by omega)
    simpa only [e] using this
theorem Lvs.take {w : World} {B : Nat} {ps : List Value} {rs : List (List Val)} (h : Lvs w B ps rs) (n : Nat) : Lvs w B (ps.take n) (rs.take n) := by
  refine ⟨by simp [h.1], fun j hj hj' => ?_⟩
  simp only [List.length_take] at hj hj'
  rw [List.getElem_take, List.getElem_take]; exact h.2 j (by omega) (by omega)
theorem Lvs.drop {w : World} {B : Nat} {ps : List Value} {rs : List (List Val)} (h : Lvs w B ps rs) (n : Nat) : Lvs w B (ps.drop n) (rs.drop n) := by
  refine ⟨by simp [h.1], fun j hj hj' => ?_⟩
  simp only [List.length_drop] at hj hj'
  rw [List.getElem_drop, List.getElem_drop]; exact h.2 (n + j) (by omega) (by omega)
theorem Lvs.one {w : World} {B : Nat} {ps : List Value} {rs : List (List Val)} (h : Lvs w B ps rs) : ∀ u ∈ ps, u.oneCell' = true := by
  intro u hu
  obtain ⟨j, hj, rfl⟩ := List.getElem_of_mem hu
  exact vals_one (h.2 j hj (by rw [← h.1]; exact hj))
theorem one_flat (l : List Value) : l.flatMap one1 = l := by
  induction l with
  | nil => rfl
  | cons a l ih => rw [List.flatMap_cons, ih]; rfl
/-- Rows that lie in memory: the slice's cells and the rows' slices. -/
theorem rows_lvs {w : World} {B : Nat} {v : Value} {rs : List (List Val)} (h : RowsAt w B v rs) : ∃ ps, Lvs w B ps rs ∧ SrcRow w v rs.length 1 ps ∧
    ((rs = [] ∧ ∃ a c, v = .slice a 0 c) ∨ ∃ b o c, v = .slice (some ⟨b, o, none⟩) rs.length c ∧ rs.length ≤ c ∧ b < B ∧ ∀ j (hj : j < ps.length), w.cell? ⟨b, o + j, none⟩ = some (ps[j]'hj)) := by
  rcases h.2 with ⟨rfl, h2⟩ | ⟨b, o, c, rfl, hcap, hb, hc⟩
  · exact ⟨[], Lvs.nil, ⟨rfl, fun u hu => by simp at hu, .inl ⟨rfl, h2⟩⟩, .inl ⟨rfl, h2⟩⟩
  · have key : ∀ n, n ≤ rs.length → ∃ ps : List Value, Lvs w B ps (rs.take n) ∧ ∀ j (hj : j < ps.length), w.cell? ⟨b, o + j, none⟩ = some (ps[j]'hj) := by
      intro n
      induction n with
      | zero => intro _; exact ⟨[], by rw [List.take_zero]; exact Lvs.nil, fun j hj => absurd hj (by simp)⟩
      | succ n ih =>
        intro hn
        obtain ⟨ps, h1, h3⟩ := ih (by omega)
        obtain ⟨lv, k2, k3⟩ := hc n (by omega)
        have hlen : ps.length = n := by rw [h1.1, List.length_take]; omega
        refine ⟨ps ++ [lv], ?_, fun j hj => ?_⟩
        · rw [List.take_succ_eq_append_getElem (by omega)]
          exact h1.snoc k3
        · rcases Nat.lt_or_ge j ps.length with q | q
          · rw [List.getElem_append_left q]; exact h3 j q
          · obtain rfl : j = ps.length := by simp at hj; omega
            have e : (ps ++ [lv])[ps.length]'hj = lv := by simp
            rw [e, hlen]; exact k2
    obtain ⟨ps, h1, h3⟩ := key rs.length (Nat.le_refl _)
    rw [List.take_length] at h1
    refine ⟨ps, h1, ⟨by rw [h1.1, Nat.mul_one], h1.one, .inr ⟨_, c, rfl, fun j u hj => ?_⟩⟩, .inr ⟨b, o, c, rfl, hcap, hb, h3⟩⟩
    obtain ⟨hjl, hj⟩ := List.getElem?_eq_some_iff.1 hj
    rw [add_nil, ← hj]
    exact h3 j hjl
/-- A row that the call owns, of rows that lie anywhere. -/
theorem own_rowsL {w : World} {base : Nat} {T : TypeId} {v : Value} {ps : List Value} {rs : List (List Val)} (hl : rs.length ≤ 9223372036854775807) (hp : Lvs w w.heap.size ps rs) (h : w.ownsRow base T 1 v ps.length ps) : RowsAt w w.heap.size v rs := by
  have h' : w.ownsRow base T 1 v ps.length (ps.flatMap one1) := by rw [one_flat]; exact h
  rcases own_at (f := one1) (k := 1) (fun _ => rfl) h' with ⟨e0, rfl⟩ | ⟨g, c, rfl, hc, _, hg, H⟩
  · have : rs = [] := List.eq_nil_of_length_eq_zero (by rw [← hp.1, e0]; rfl)
    subst this
    exact ⟨hl, .inl ⟨rfl, none, 0, rfl⟩⟩
  · refine ⟨hl, .inr ⟨g, 0, c, by rw [hp.1], by rw [← hp.1]; exact hc, hg, fun j hj => ?_⟩⟩
    have hj' : j < ps.length := by rw [hp.1]; exact hj
    have := H j hj' 0 _ (by omega) rfl
    exact ⟨ps[j]'hj', by simpa using this, hp.2 j hj' hj⟩
end Go.Proofs.Ytpahoenanfjhpaa
