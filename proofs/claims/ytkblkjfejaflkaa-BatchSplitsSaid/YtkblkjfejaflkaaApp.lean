/-
  APPENDS of a whole list onto a row that the call owns; the lists in memory as rows of cells. Conditions: each theorem states its own.
-/
import Derived.Test.YtkblkjfejaflkaaRcs
import Derived.Laws.OwnMore
import Derived.Maps.AppendAt
set_option linter.unusedVariables false
set_option linter.unusedSimpArgs false
namespace Go.Proofs.Ytkblkjfejaflkaa
open Go.RowKit
/-- In world w the value reads as the slice of m elements whose cells are the list. -/
def SrcRow (w : World) (xv : Value) (m size : Nat) (news : List Value) : Prop :=
  news.length = m * size ∧ (∀ u ∈ news, u.oneCell' = true) ∧ ((m = 0 ∧ ∃ a c, xv = .slice a 0 c) ∨ ∃ a c, xv = .slice (some a) m c ∧ ∀ j u, news[j]? = some u → w.cell? (a.add j) = some u)
theorem run_append_row {P : Program} {w : World} (base : Nat) (t ty e : TypeId) (i : TypeInfo) (z : Value) (size bytes : Nat) (ht : P.underlying t = some (.slice e)) (hi : P.info? e = some i) (hz : i.zero = some z) (hsize : i.size = size) (hby : i.bytes = bytes) (hzs : z.cells.size = size) (hsz : 0 < size)
    (v : Value) (n : Nat) (xs : List Value) (hown : w.ownsRow base e size v n xs) (xv : Value) (m : Nat) (news : List Value) (hx : SrcRow w xv m size news) (h63 : n + m ≤ maxLen) (hbytes : (n + m) * bytes ≤ 140737488355328) (hbase : base ≤ w.heap.size) :
    ∃ v' w', (Builtin.append_ #[t, t] ty #[v, xv]).run P w = .ok v' w' ∧ w'.ownsRow base e size v' (n + m) (xs ++ news) ∧ w.grownBy w' v.ownBlock ∧ (v'.ownBlock = v.ownBlock ∨ v'.ownBlock = some w.heap.size) := by
  obtain ⟨hl, h1, hx⟩ := hx
  rcases hx with ⟨rfl, a, c, rfl⟩ | ⟨a, c, rfl, hc⟩
  · have e0 : news = [] := List.eq_nil_of_length_eq_zero (by simpa using hl)
    subst e0
    cases a with
    | none =>
      refine ⟨v, w, ?_, by simpa using hown, ⟨rfl, rfl, rfl, Nat.le_refl _, fun _ _ _ => rfl⟩, .inl rfl⟩
      rcases hown.2 with ⟨rfl, rfl⟩ | ⟨g, cap, cur, rfl, _, _, hnc, _⟩
      · simp [Builtin.append_, run_underlying ht, sizeOf, typeInfo, hi, Builtin.lenOf, Builtin.firstCells]
      · simp [Builtin.append_, run_underlying ht, sizeOf, typeInfo, hi, Builtin.lenOf, Builtin.firstCells, hnc, storeCells]
    | some a =>
      obtain ⟨v', w', h1, h2, h3, _, h5⟩ := run_append_own_at (P := P) (w := w) base t ty e i z size bytes ht hi hz hsize hby hzs hsz v n xs hown a 0 c [] (by simp) (fun j u hj => by simp at hj) (fun u hu => by simp at hu) (by simpa using h63) (by simpa using hbytes) hbase
      exact ⟨v', w', h1, by simpa using h2, h3, h5⟩
  · obtain ⟨v', w', k1, h2, h3, _, h5⟩ := run_append_own_at (P := P) (w := w) base t ty e i z size bytes ht hi hz hsize hby hzs hsz v n xs hown a m c news hl hc h1 h63 hbytes hbase
    exact ⟨v', w', k1, h2, h3, h5⟩
theorem wpList_append_row {P : Program} {w : World} {ops : Array Oper} {rest : List Oper} {o : Oper} {a : Act} {Q : Exit → Act → World → Prop} (hw : Region.wanted o (yielded ops a.tmps) = true) (s x : Operand) (t : TypeId)
    (ho : o.op = .call { callee := .builtin .append, args := #[s, x], argTypes := #[t, t] })
    (base : Nat) (e : TypeId) (i : TypeInfo) (z : Value) (size bytes : Nat) (ht : P.underlying t = some (.slice e)) (hi : P.info? e = some i) (hz : i.zero = some z) (hsize : i.size = size) (hby : i.bytes = bytes) (hzs : z.cells.size = size) (hsz : 0 < size)
    (v : Value) (n : Nat) (xs : List Value) (hs : a.eval s = v) (hown : w.ownsRow base e size v n xs) (xv : Value) (m : Nat) (news : List Value) (hxv : a.eval x = xv) (hx : SrcRow w xv m size news) (h63 : n + m ≤ maxLen) (hbytes : (n + m) * bytes ≤ 140737488355328) (hbase : base ≤ w.heap.size)
    (h : ∀ v' w', w'.ownsRow base e size v' (n + m) (xs ++ news) → w.grownBy w' v.ownBlock → (v'.ownBlock = v.ownBlock ∨ v'.ownBlock = some w.heap.size) → wpList P ops Q rest (a.put o.dst v') w') : wpList P ops Q (o :: rest) a w := by
  refine wpList_step fun K hK => ?_
  rw [if_pos hw]
  obtain ⟨v', w', hr, h2, h3, h4⟩ := run_append_row (P := P) base t o.type e i z size bytes ht hi hz hsize hby hzs hsz v n xs hown xv m news hx h63 hbytes hbase
  unfold Oper.wp execOp
  simp only [ho, resolve, invoke, builtin, Sem.run_bind, Sem.run_pure, Result.andThen_ok, List.map_toArray, List.map_cons, List.map_nil, hs, hxv, hr]
  exact hK _ _ (h v' w' h2 h3 h4)
theorem add_nil (b o j : Nat) : (⟨b, o, none⟩ : Addr).add j = ⟨b, o + j, none⟩ := by unfold Addr.add; by_cases q : j = 0 <;> simp [q]
/-- A row of elements of k cells each. -/
theorem srcRow_of {α : Type} {w : World} {xv : Value} {k : Nat} (hk0 : 0 < k) (f : α → List Value) (hk : ∀ a, (f a).length = k) (h1 : ∀ a, ∀ u ∈ f a, u.oneCell' = true) (l : List α)
    (hx : (l = [] ∧ ∃ a c, xv = .slice a 0 c) ∨ ∃ b o c, xv = .slice (some ⟨b, o, none⟩) l.length c ∧ ∀ j (hj : j < l.length) i (u : Value), (f (l[j]'hj))[i]? = some u → w.cell? ⟨b, o + j * k + i, none⟩ = some u) : SrcRow w xv l.length k (l.flatMap f) := by
  refine ⟨flat_len f k hk l, ?_, ?_⟩
  · intro u hu
    obtain ⟨c, _, hc⟩ := List.mem_flatMap.1 hu
    exact h1 c u hc
  · rcases hx with ⟨rfl, h⟩ | ⟨b, o, c, rfl, h⟩
    · exact .inl ⟨rfl, h⟩
    · refine .inr ⟨_, c, rfl, fun j u hj => ?_⟩
      have hjl := (List.getElem?_eq_some_iff.1 hj).1
      rw [flat_len f k hk] at hjl
      have hd : j / k < l.length := Nat.div_lt_of_lt_mul (by rw [Nat.mul_comm]; exact hjl)
      have hm : j % k < k := Nat.mod_lt _ hk0
      have e : j = j / k * k + j % k := by rw [Nat.mul_comm]; exact (Nat.div_add_mod j k).symm
      have hg := flat_get f k hk l (j / k) (j % k) hd hm
      rw [← e, hj] at hg
      rw [add_nil]
      have := h (j / k) hd (j % k) u hg.symm
      rwa [Nat.add_assoc, ← e] at this
theorem vals_row {w : World} {B : Nat} {v : Value} {l : List Val} (h : ValsAt w B v l) : SrcRow w v l.length 3 (l.flatMap valC) := by
  refine srcRow_of (by decide) valC (fun _ => rfl) (fun a u hu => by simp [valC] at hu; rcases hu with rfl | rfl | rfl <;> rfl) l ?_
  rcases h.2 with ⟨rfl, h2⟩ | ⟨b, o, c, rfl, _, _, hc⟩
  · exact .inl ⟨rfl, h2⟩
  · refine .inr ⟨b, o, c, rfl, fun j hj i u hu => ?_⟩
    obtain ⟨k0, k1, k2⟩ := hc j hj
    rcases i with _ | _ | _ | i
    · simp [valC] at hu; rw [← hu]; exact k0
    · simp [valC] at hu; rw [← hu]; exact k1
    · simp [valC] at hu; rw [← hu]; exact k2
    · simp [valC] at hu
/-- The pairs of a list of records in memory. -/
def Prs (w : World) (B : Nat) (ps : List (Int × Value)) (rs : List Rc) : Prop := ps.length = rs.length ∧ ∀ j (h : j < ps.length) (h' : j < rs.length), (ps[j]'h).1 = (rs[j]'(h')).seq ∧ ValsAt w B (ps[j]'h).2 (rs[j]'(h')).row
theorem Prs.mono {w w' : World} {B B' : Nat} {ps : List (Int × Value)} {rs : List Rc} (h : Prs w B ps rs) (hb : Below B w w') (hB : B ≤ B') : Prs w' B' ps rs := ⟨h.1, fun j h1 h2 => ⟨(h.2 j h1 h2).1, (h.2 j h1 h2).2.mono hb hB⟩⟩
theorem Prs.nil {w : World} {B : Nat} : Prs w B [] [] := ⟨rfl, fun j h => absurd h (by simp)⟩
theorem Prs.snoc {w : World} {B : Nat} {ps : List (Int × Value)} {rs : List Rc} (h : Prs w B ps rs) {s : Int} {v : Value} {r : Rc} (hs : s = r.seq) (hv : ValsAt w B v r.row) : Prs w B (ps ++ [(s, v)]) (rs ++ [r]) := by
  refine ⟨by simp [h.1], fun j hj hj' => ?_⟩
  rcases Nat.lt_or_ge j ps.length with q | q
  · have q' : j < rs.length := by rw [← h.1]; exact q
    rw [List.getElem_append_left q, List.getElem_append_left q']
    exact h.2 j q q'
  · obtain rfl : j = ps.length := by simp at hj; omega
    have e1 : (ps ++ [(s, v)])[ps.length]'hj = (s, v) := by simp
    have e2 : (rs ++ [r])[ps.length]'hj' = r := by simp [h.1]
    rw [e1, e2]
    exact ⟨hs, hv⟩
theorem Prs.app {w : World} {B : Nat} {ps qs : List (Int × Value)} {rs ts : List Rc} (h : Prs w B ps rs) (k : Prs w B qs ts) : Prs w B (ps ++ qs) (rs ++ ts) := by
  refine ⟨by simp [h.1, k.1], fun j hj hj' => ?_⟩
  rcases Nat.lt_or_ge j ps.length with q | q
  · have q' : j < rs.length := by rw [← h.1]; exact q
    rw [List.getElem_append_left q, List.getElem_append_left q']
    exact h.2 j q q'
  · have q' : rs.length ≤ j := by rw [← h.1]; exact q
    rw [List.getElem_append_right q, List.getElem_append_right q']
    simp only [List.length_append] at hj hj'
    have e : j - ps.length = j - rs.length := by rw [h.1]
    have := k.2 (j - ps.length) (by omega) (by omega)
    simpa only [e] using this
theorem Prs.take {w : World} {B : Nat} {ps : List (Int × Value)} {rs : List Rc} (h : Prs w B ps rs) (n : Nat) : Prs w B (ps.take n) (rs.take n) := by
  refine ⟨by simp [h.1], fun j hj hj' => ?_⟩
  simp only [List.length_take] at hj hj'
  rw [List.getElem_take, List.getElem_take]; exact h.2 j (by omega) (by omega)
theorem Prs.drop {w : World} {B : Nat} {ps : List (Int × Value)} {rs : List Rc} (h : Prs w B ps rs) (n : Nat) : Prs w B (ps.drop n) (rs.drop n) := by
  refine ⟨by simp [h.1], fun j hj hj' => ?_⟩
  simp only [List.length_drop] at hj hj'
  rw [List.getElem_drop, List.getElem_drop]; exact h.2 (n + j) (by omega) (by omega)
theorem rcC_one (p : Int × Value) (h : p.2.oneCell' = true) : ∀ u ∈ rcC p, u.oneCell' = true := by
  intro u hu
  simp [rcC] at hu
  rcases hu with rfl | rfl
  · rfl
  · exact h
theorem vals_one {w : World} {B : Nat} {v : Value} {l : List Val} (h : ValsAt w B v l) : v.oneCell' = true := by obtain ⟨a, c, rfl⟩ := vals_end h; rfl
/-- Records that lie in memory: the slice's cells and the pairs. -/
theorem recs_row {w : World} {B : Nat} {v : Value} {rs : List Rc} (h : RecsAt w B v rs) : ∃ ps, Prs w B ps rs ∧ SrcRow w v rs.length 2 (ps.flatMap rcC) ∧
    ((rs = [] ∧ ∃ a c, v = .slice a 0 c) ∨ ∃ b o c, v = .slice (some ⟨b, o, none⟩) rs.length c ∧ rs.length ≤ c ∧ b < B ∧ ∀ j (hj : j < ps.length), w.cell? ⟨b, o + j * 2, none⟩ = some (.int .i64 (ps[j]'hj).1) ∧ w.cell? ⟨b, o + j * 2 + 1, none⟩ = some (ps[j]'hj).2) := by
  rcases h.2 with ⟨rfl, h2⟩ | ⟨b, o, c, rfl, hcap, hb, hc⟩
  · exact ⟨[], Prs.nil, ⟨rfl, fun u hu => by simp at hu, .inl ⟨rfl, h2⟩⟩, .inl ⟨rfl, h2⟩⟩
  · have key : ∀ n, n ≤ rs.length → ∃ ps : List (Int × Value), Prs w B ps (rs.take n) ∧ ∀ j (hj : j < ps.length), w.cell? ⟨b, o + j * 2, none⟩ = some (.int .i64 (ps[j]'hj).1) ∧ w.cell? ⟨b, o + j * 2 + 1, none⟩ = some (ps[j]'hj).2 := by
      intro n
      induction n with
      | zero => intro _; exact ⟨[], by rw [List.take_zero]; exact Prs.nil, fun j hj => absurd hj (by simp)⟩
      | succ n ih =>
        intro hn
        obtain ⟨ps, h1, h3⟩ := ih (by omega)
        obtain ⟨k1, lv, k2, k3⟩ := hc n (by omega)
        have hlen : ps.length = n := by rw [h1.1, List.length_take]; omega
        refine ⟨ps ++ [((rs[n]'(by omega)).seq, lv)], ?_, fun j hj => ?_⟩
        · rw [List.take_succ_eq_append_getElem (by omega)]
          exact h1.snoc rfl k3
        · rcases Nat.lt_or_ge j ps.length with q | q
          · rw [List.getElem_append_left q]; exact h3 j q
          · obtain rfl : j = ps.length := by simp at hj; omega
            have e : (ps ++ [((rs[n]'(by omega)).seq, lv)])[ps.length]'hj = ((rs[n]'(by omega)).seq, lv) := by simp
            rw [e, hlen]; exact ⟨k1, k2⟩
    obtain ⟨ps, h1, h3⟩ := key rs.length (Nat.le_refl _)
    rw [List.take_length] at h1
    have hone : ∀ p ∈ ps, p.2.oneCell' = true := by
      intro p hp
      obtain ⟨j, hj, rfl⟩ := List.getElem_of_mem hp
      exact vals_one (h1.2 j hj (by rw [← h1.1]; exact hj)).2
    refine ⟨ps, h1, ⟨by rw [flat_len rcC 2 (fun _ => rfl), h1.1], ?_, .inr ⟨_, c, rfl, ?_⟩⟩, .inr ⟨b, o, c, rfl, hcap, hb, h3⟩⟩
    · intro u hu
      obtain ⟨p, hp, hc'⟩ := List.mem_flatMap.1 hu
      exact rcC_one p (hone p hp) u hc'
    · intro j u hj
      have hjl := (List.getElem?_eq_some_iff.1 hj).1
      rw [flat_len rcC 2 (fun _ => rfl)] at hjl
      have hd : j / 2 < ps.length := by omega
      have hm : j % 2 < 2 := by omega
      have e : j = j / 2 * 2 + j % 2 := by omega
      have hg := flat_get rcC 2 (fun _ => rfl) ps (j / 2) (j % 2) hd hm
      rw [← e, hj] at hg
      rw [add_nil]
      rcases (show j % 2 = 0 ∨ j % 2 = 1 by omega) with q | q
      · rw [q] at hg
        simp [rcC] at hg
        rw [hg, show o + j = o + j / 2 * 2 by omega]; exact (h3 _ hd).1
      · rw [q] at hg
        simp [rcC] at hg
        rw [hg, show o + j = o + j / 2 * 2 + 1 by omega]; exact (h3 _ hd).2
/-- A row that the call owns, of records whose rows lie anywhere. -/
theorem own_recs {w : World} {base : Nat} {T : TypeId} {v : Value} {ps : List (Int × Value)} {rs : List Rc} (hl : rs.length ≤ 9223372036854775807) (hp : Prs w w.heap.size ps rs) (h : w.ownsRow base T 2 v ps.length (ps.flatMap rcC)) : RecsAt w w.heap.size v rs := by
  rcases own_at (f := rcC) (k := 2) (fun _ => rfl) h with ⟨rfl, rfl⟩ | ⟨g, c, rfl, hc, _, hg, H⟩
  · have : rs = [] := List.eq_nil_of_length_eq_zero hp.1.symm
    subst this
    exact ⟨hl, .inl ⟨rfl, none, 0, rfl⟩⟩
  · refine ⟨hl, .inr ⟨g, 0, c, by rw [hp.1], by rw [← hp.1]; exact hc, hg, fun j hj => ?_⟩⟩
    have hj' : j < ps.length := by rw [hp.1]; exact hj
    have q := hp.2 j hj' hj
    refine ⟨?_, (ps[j]'hj').2, ?_, q.2⟩
    · have := H j hj' 0 _ (by omega) rfl
      rw [← q.1]; simpa using this
    · have := H j hj' 1 _ (by omega) rfl
      simpa using this
end Go.Proofs.Ytkblkjfejaflkaa
