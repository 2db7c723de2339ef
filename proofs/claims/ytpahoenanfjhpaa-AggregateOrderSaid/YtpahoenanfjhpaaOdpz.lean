/-
  PLAIN: the order of the rows has no influence on aggregates. Conditions: each theorem states its own; no program in sight.
-/
import Derived.Test.YtpahoenanfjhpaaRunz
set_option linter.unusedVariables false
set_option linter.unusedSimpArgs false
namespace Go.Proofs.Ytpahoenanfjhpaa
open Go.RowKit Srt
theorem bytes_inj' {a b : ByteArray} (h : a.toList = b.toList) : a = b := by
  rw [ByteArray.toList_eq, ByteArray.toList_eq] at h
  cases a; cases b
  simp only [ByteArray.mk.injEq]
  exact Array.toList_inj.1 h
/-- Valid values that compare equal are equal. -/
theorem cmpV_eq {ty : Int} {nul : Bool} {x y : Val} (hx : vchk ty nul x.null x.n x.s = 0) (hy : vchk ty nul y.null y.n y.s = 0) (h : cmpV ty x y = 0) : x = y := by
  obtain ⟨xn, xi, xs⟩ := x
  obtain ⟨yn, yi, ys⟩ := y
  dsimp only at hx hy
  unfold cmpV at h
  dsimp only at h
  unfold vchk at hx hy
  by_cases ht : ty < 1 ∨ 5 < ty
  · rw [if_pos ht] at hx; exact absurd hx (by decide)
  rw [if_neg ht] at hx hy
  cases xn <;> cases yn
  · simp only [Bool.false_eq_true, if_false] at hx hy h
    by_cases e3 : ty = 3
    · rw [if_pos e3] at h
      have hn : ∀ {n : Int} {s : ByteArray}, (if (¬ ty = 3 ∧ ¬ s.toList = []) ∨ (ty = 3 ∧ ¬ n = 0) then (11 : Int) else if permF ty n s = true then 0 else 4) = 0 → n = 0 := fun {n s} q => by
        by_cases c : (¬ ty = 3 ∧ ¬ s.toList = []) ∨ (ty = 3 ∧ ¬ n = 0)
        · rw [if_pos c] at q; exact absurd q (by decide)
        · by_cases n0 : n = 0
          · exact n0
          · exact absurd (.inr ⟨e3, n0⟩) c
      rw [hn hx, hn hy]
      have hs : xs = ys := by
        apply bytes_inj'
        unfold cmpS at h
        by_cases l1 : Op.bytesLess xs.toList ys.toList = true
        · rw [if_pos l1] at h; exact absurd h (by decide)
        · rw [if_neg l1] at h
          by_cases l2 : xs.toList = ys.toList
          · exact l2
          · rw [if_neg l2] at h; exact absurd h (by decide)
      rw [hs]
    · rw [if_neg e3] at h
      have hs : ∀ {n : Int} {s : ByteArray}, (if (¬ ty = 3 ∧ ¬ s.toList = []) ∨ (ty = 3 ∧ ¬ n = 0) then (11 : Int) else if permF ty n s = true then 0 else 4) = 0 → s.toList = [] := fun {n s} q => by
        by_cases c : (¬ ty = 3 ∧ ¬ s.toList = []) ∨ (ty = 3 ∧ ¬ n = 0)
        · rw [if_pos c] at q; exact absurd q (by decide)
        · by_cases s0 : s.toList = []
          · exact s0
          · exact absurd (.inl ⟨e3, s0⟩) c
      have e : xs = ys := bytes_inj' ((hs hx).trans (hs hy).symm)
      have en : xi = yi := by
        unfold cmpI at h
        by_cases l1 : xi < yi
        · rw [if_pos l1] at h; exact absurd h (by decide)
        · rw [if_neg l1] at h
          by_cases l2 : xi = yi
          · exact l2
          · rw [if_neg l2] at h; exact absurd h (by decide)
      rw [e, en]
  · simp at h
  · simp at h
  · simp only [if_true] at hx hy
    have k : ∀ {n : Int} {s : ByteArray}, (if ¬ s.toList = [] ∨ ¬ n = 0 then (11 : Int) else if nul = true then 0 else 12) = 0 → s.toList = [] ∧ n = 0 := fun {n s} q => by
      by_cases c : ¬ s.toList = [] ∨ ¬ n = 0
      · rw [if_pos c] at q; exact absurd q (by decide)
      · exact ⟨Classical.byContradiction fun a => c (.inl a), Classical.byContradiction fun a => c (.inr a)⟩
    obtain ⟨a1, a2⟩ := k hx
    obtain ⟨b1, b2⟩ := k hy
    rw [a2, b2, bytes_inj' (a1.trans b1.symm)]
/-- Good groups of permuted elements are permuted groups. -/
inductive PermAll {β : Type} : List (List β) → List (List β) → Prop where
  | nil : PermAll [] []
  | cons {a b : List β} {as' bs : List (List β)} : a.Perm b → PermAll as' bs → PermAll (a :: as') (b :: bs)
theorem good_filter {β : Type} {d : β → β → Int} (hp : Pre d) {g : List β} {gs : List (List β)} (h : Srt.Good d (g :: gs)) {x : β} (hx : x ∈ g) : g = (g :: gs).flatten.filter (fun y => decide (d x y = 0)) ∧ gs.flatten = (g :: gs).flatten.filter (fun y => !decide (d x y = 0)) := by
  have h1 : ∀ y ∈ g, d x y = 0 := fun y hy => h.eq g (by simp) x hx y hy
  have h2 : ∀ y ∈ gs.flatten, ¬ d x y = 0 := fun y hy => by
    obtain ⟨a, ha, hy⟩ := List.mem_flatten.1 hy
    have := (List.pairwise_cons.1 h.lt).1 a ha x hx y hy
    omega
  rw [List.flatten_cons, List.filter_append, List.filter_append]
  refine ⟨?_, ?_⟩
  · rw [List.filter_eq_self.2 (fun y hy => by simp [h1 y hy]), List.filter_eq_nil_iff.2 (fun y hy => by simp [h2 y hy]), List.append_nil]
  · rw [List.filter_eq_nil_iff.2 (fun y hy => by simp [h1 y hy]), List.filter_eq_self.2 (fun y hy => by simp [h2 y hy]), List.nil_append]
theorem good_perm {β : Type} {d : β → β → Int} (hp : Pre d) : ∀ (A B : List (List β)), Srt.Good d A → Srt.Good d B → A.flatten.Perm B.flatten → PermAll A B
  | [], [], _, _, _ => .nil
  | [], b :: B, _, hB, h => by
    have h1 := h.length_eq
    have h2 := List.length_pos_iff.2 (hB.ne b (by simp))
    rw [List.flatten_cons, List.length_append] at h1
    simp only [List.flatten_nil, List.length_nil] at h1; omega
  | a :: A, [], hA, _, h => by
    have h1 := h.length_eq
    have h2 := List.length_pos_iff.2 (hA.ne a (by simp))
    rw [List.flatten_cons, List.length_append] at h1
    simp only [List.flatten_nil, List.length_nil] at h1; omega
  | a :: A, b :: B, hA, hB, h => by
    obtain ⟨x, hx⟩ : ∃ x, x ∈ a := List.exists_mem_of_ne_nil _ (hA.ne a (by simp))
    obtain ⟨y, hy⟩ : ∃ y, y ∈ b := List.exists_mem_of_ne_nil _ (hB.ne b (by simp))
    have le : ∀ {g : List β} {gs : List (List β)} (hG : Srt.Good d (g :: gs)) {u : β} (hu : u ∈ g) {v : β}, v ∈ (g :: gs).flatten → d u v ≤ 0 := fun {g gs} hG {u} hu {v} hv => by
      rw [List.flatten_cons] at hv
      rcases List.mem_append.1 hv with q | q
      · exact Int.le_of_eq (hG.eq g (by simp) u hu v q)
      · obtain ⟨c, hc, q⟩ := List.mem_flatten.1 q
        exact Int.le_of_lt ((List.pairwise_cons.1 hG.lt).1 c hc u hu v q)
    have xB : x ∈ (b :: B).flatten := h.mem_iff.1 (by rw [List.flatten_cons]; exact List.mem_append_left _ hx)
    have yA : y ∈ (a :: A).flatten := h.mem_iff.2 (by rw [List.flatten_cons]; exact List.mem_append_left _ hy)
    have d1 := le hA hx yA
    have d2 := le hB hy xB
    have dxy : d x y = 0 := by have := hp.anti y x; have := hp.anti x y; omega
    obtain ⟨fa, fA⟩ := good_filter hp hA hx
    obtain ⟨fb, fB⟩ := good_filter hp hB hy
    have same : ∀ z, d x z = 0 ↔ d y z = 0 := fun z => by
      have dyx : d y x = 0 := Srt.Pre.symm0 hp dxy
      constructor
      · intro q
        have a1 := hp.trans y x z (Int.le_of_eq dyx) (Int.le_of_eq q)
        have a2 := hp.trans z x y (Int.le_of_eq (Srt.Pre.symm0 hp q)) (Int.le_of_eq dxy)
        have := hp.anti y z; have := hp.anti z y; omega
      · intro q
        have a1 := hp.trans x y z (Int.le_of_eq dxy) (Int.le_of_eq q)
        have a2 := hp.trans z y x (Int.le_of_eq (Srt.Pre.symm0 hp q)) (Int.le_of_eq dyx)
        have := hp.anti x z; have := hp.anti z x; omega
    have ep : (fun z => decide (d x z = 0)) = (fun z => decide (d y z = 0)) := by funext z; exact decide_eq_decide.2 (same z)
    have en : (fun z => !decide (d x z = 0)) = (fun z => !decide (d y z = 0)) := by funext z; rw [decide_eq_decide.2 (same z)]
    refine .cons ?_ (good_perm hp A B hA.tail hB.tail ?_)
    · rw [fa, fb, ep]; exact h.filter _
    · rw [fA, fB, en]; exact h.filter _
/-- Rows that fit the columns. -/
def Fit (cs : List Col) (rows : List (List Val)) : Prop := ∀ r ∈ rows, r.length = cs.length ∧ RowPre cs r
theorem fit_val {cs : List Col} {r : List Val} (h : r.length = cs.length ∧ RowPre cs r) {K : Nat} (hK : K < cs.length) : vchk (colTy cs (K : Int)) (cs[K]'hK).nul (r.getD K Val.zero).null (r.getD K Val.zero).n (r.getD K Val.zero).s = 0 := by
  have hk : K < r.length := by rw [h.1]; exact hK
  rw [colTy_at hK, getDv_in hk]
  exact h.2 K hk hK
theorem proj_eq {cs : List Col} {x y : List Val} (hx : x.length = cs.length ∧ RowPre cs x) (hy : y.length = cs.length ∧ RowPre cs y) : ∀ {gr : List Int}, InC cs.length gr → grpC cs x y gr = 0 → projF x gr = projF y gr
  | [], _, _ => rfl
  | i :: gr, hin, h => by
    obtain ⟨h0, h1⟩ := hin i (by simp)
    obtain ⟨K, rfl⟩ : ∃ K : Nat, i = (K : Int) := ⟨i.toNat, by omega⟩
    have hK : K < cs.length := by omega
    simp only [grpC] at h
    by_cases q : cmpV (colTy cs (K : Int)) (x.getD (K : Int).toNat Val.zero) (y.getD (K : Int).toNat Val.zero) = 0
    · rw [if_pos q] at h
      have ih := proj_eq hx hy (fun j hj => hin j (List.mem_cons_of_mem _ hj)) h
      rw [Int.toNat_natCast] at q
      have e := cmpV_eq (fit_val hx hK) (fit_val hy hK) q
      unfold projF at ih ⊢
      rw [List.map_cons, List.map_cons, ih, Int.toNat_natCast, e]
    · rw [if_neg q] at h; exact absurd h q
theorem head_perm {cs : List Col} {gr : List Int} {g h : List (List Val)} (hin : InC cs.length gr) (hp : g.Perm h) (hf : Fit cs g) (he : ∀ x ∈ g, ∀ y ∈ g, grpC cs x y gr = 0) : headR gr g = headR gr h := by
  cases g with
  | nil => rw [hp.nil_eq]
  | cons x g =>
    cases h with
    | nil => exact absurd hp.length_eq (by simp)
    | cons y h =>
      have hy : y ∈ x :: g := hp.mem_iff.2 (by simp)
      exact proj_eq (hf x (by simp)) (hf y hy) hin (he x (by simp) y hy)
theorem vals_perm {g h : List (List Val)} (hp : g.Perm h) (c : Nat) : (valsC g c).Perm (valsC h c) := (hp.map _).filter _
theorem vals_ok {cs : List Col} {g : List (List Val)} (hf : Fit cs g) {K : Nat} (hK : K < cs.length) : ∀ v ∈ valsC g K, vchk (colTy cs (K : Int)) (cs[K]'hK).nul v.null v.n v.s = 0 := fun v hv => by
  obtain ⟨r, hr, rfl⟩ := List.mem_map.1 (List.mem_filter.1 hv).1
  exact fit_val (hf r hr) hK
theorem min_fold (ty : Int) : ∀ (l : List Val) (m : Val), (l.foldl (fun m x => if (decide (cmpV ty x m < 0)) = true then x else m) m = m ∨ l.foldl (fun m x => if (decide (cmpV ty x m < 0)) = true then x else m) m ∈ l) ∧ cmpV ty (l.foldl (fun m x => if (decide (cmpV ty x m < 0)) = true then x else m) m) m ≤ 0 ∧ ∀ x ∈ l, cmpV ty (l.foldl (fun m x => if (decide (cmpV ty x m < 0)) = true then x else m) m) x ≤ 0
  | [], m => ⟨.inl rfl, by have := cmpV_neg ty m m; simp only [List.foldl_nil]; omega, fun x hx => absurd hx (by simp)⟩
  | y :: l, m => by
    simp only [List.foldl_cons]
    obtain ⟨i1, i2, i3⟩ := min_fold ty l (if (decide (cmpV ty y m < 0)) = true then y else m)
    generalize l.foldl (fun m x => if (decide (cmpV ty x m < 0)) = true then x else m) (if (decide (cmpV ty y m < 0)) = true then y else m) = r at *
    by_cases q : cmpV ty y m < 0
    · rw [if_pos (by simpa using q)] at i1 i2
      refine ⟨.inr (by rcases i1 with e | e; rw [e]; simp; exact List.mem_cons_of_mem _ e), cmpV_trans i2 (Int.le_of_lt q), fun x hx => ?_⟩
      rcases List.mem_cons.1 hx with rfl | hx
      · exact i2
      · exact i3 x hx
    · rw [if_neg (by simpa using q)] at i1 i2
      have q2 : cmpV ty m y ≤ 0 := by have := cmpV_neg ty y m; omega
      refine ⟨i1.imp id (List.mem_cons_of_mem _), i2, fun x hx => ?_⟩
      rcases List.mem_cons.1 hx with rfl | hx
      · exact cmpV_trans i2 q2
      · exact i3 x hx
theorem max_fold (ty : Int) : ∀ (l : List Val) (m : Val), (l.foldl (fun m x => if (decide (0 < cmpV ty x m)) = true then x else m) m = m ∨ l.foldl (fun m x => if (decide (0 < cmpV ty x m)) = true then x else m) m ∈ l) ∧ cmpV ty m (l.foldl (fun m x => if (decide (0 < cmpV ty x m)) = true then x else m) m) ≤ 0 ∧ ∀ x ∈ l, cmpV ty x (l.foldl (fun m x => if (decide (0 < cmpV ty x m)) = true then x else m) m) ≤ 0
  | [], m => ⟨.inl rfl, by have := cmpV_neg ty m m; simp only [List.foldl_nil]; omega, fun x hx => absurd hx (by simp)⟩
  | y :: l, m => by
    simp only [List.foldl_cons]
    obtain ⟨i1, i2, i3⟩ := max_fold ty l (if (decide (0 < cmpV ty y m)) = true then y else m)
    generalize l.foldl (fun m x => if (decide (0 < cmpV ty x m)) = true then x else m) (if (decide (0 < cmpV ty y m)) = true then y else m) = r at *
    by_cases q : 0 < cmpV ty y m
    · rw [if_pos (by simpa using q)] at i1 i2
      have q2 : cmpV ty m y ≤ 0 := by have := cmpV_neg ty y m; omega
      refine ⟨.inr (by rcases i1 with e | e; rw [e]; simp; exact List.mem_cons_of_mem _ e), cmpV_trans q2 i2, fun x hx => ?_⟩
      rcases List.mem_cons.1 hx with rfl | hx
      · exact i2
      · exact i3 x hx
    · rw [if_neg (by simpa using q)] at i1 i2
      refine ⟨i1.imp id (List.mem_cons_of_mem _), i2, fun x hx => ?_⟩
      rcases List.mem_cons.1 hx with rfl | hx
      · exact cmpV_trans (by omega) i2
      · exact i3 x hx
theorem min_in {ty : Int} {l : List Val} (h : l ≠ []) : minV ty l ∈ l ∧ ∀ x ∈ l, cmpV ty (minV ty l) x ≤ 0 := by
  cases l with
  | nil => exact absurd rfl h
  | cons v l =>
    obtain ⟨i1, i2, i3⟩ := min_fold ty l v
    show (l.foldl _ v ∈ _) ∧ _
    refine ⟨?_, fun x hx => ?_⟩
    · rcases i1 with e | e
      · rw [show l.foldl (fun m x => if (decide (cmpV ty x m < 0)) = true then x else m) v = v from e]; simp
      · exact List.mem_cons_of_mem _ e
    · rcases List.mem_cons.1 hx with rfl | hx
      · exact i2
      · exact i3 x hx
theorem max_in {ty : Int} {l : List Val} (h : l ≠ []) : maxV ty l ∈ l ∧ ∀ x ∈ l, cmpV ty x (maxV ty l) ≤ 0 := by
  cases l with
  | nil => exact absurd rfl h
  | cons v l =>
    obtain ⟨i1, i2, i3⟩ := max_fold ty l v
    show (l.foldl _ v ∈ _) ∧ _
    refine ⟨?_, fun x hx => ?_⟩
    · rcases i1 with e | e
      · rw [show l.foldl (fun m x => if (decide (0 < cmpV ty x m)) = true then x else m) v = v from e]; simp
      · exact List.mem_cons_of_mem _ e
    · rcases List.mem_cons.1 hx with rfl | hx
      · exact i2
      · exact i3 x hx
theorem minV_perm {ty : Int} {nul : Bool} {l m : List Val} (hp : l.Perm m) (h : l ≠ []) (hv : ∀ v ∈ l, vchk ty nul v.null v.n v.s = 0) : minV ty l = minV ty m := by
  have hm : m ≠ [] := fun e => h (by rw [e] at hp; exact hp.eq_nil)
  obtain ⟨a1, a2⟩ := min_in (ty := ty) h
  obtain ⟨b1, b2⟩ := min_in (ty := ty) hm
  have c1 := a2 _ (hp.mem_iff.2 b1)
  have c2 := b2 _ (hp.mem_iff.1 a1)
  exact cmpV_eq (hv _ a1) (hv _ (hp.mem_iff.2 b1)) (by have := cmpV_neg ty (minV ty l) (minV ty m); omega)
theorem maxV_perm {ty : Int} {nul : Bool} {l m : List Val} (hp : l.Perm m) (h : l ≠ []) (hv : ∀ v ∈ l, vchk ty nul v.null v.n v.s = 0) : maxV ty l = maxV ty m := by
  have hm : m ≠ [] := fun e => h (by rw [e] at hp; exact hp.eq_nil)
  obtain ⟨a1, a2⟩ := max_in (ty := ty) h
  obtain ⟨b1, b2⟩ := max_in (ty := ty) hm
  have c1 := a2 _ (hp.mem_iff.2 b1)
  have c2 := b2 _ (hp.mem_iff.1 a1)
  exact cmpV_eq (hv _ a1) (hv _ (hp.mem_iff.2 b1)) (by have := cmpV_neg ty (maxV ty l) (maxV ty m); omega)
def sumS (p : Int × Int) (v : Val) : Int × Int := (Wd.addHi p.1 p.2 (Wd.ofHi v.n) (Wd.ofLo v.n), Wd.addLo p.2 (Wd.ofLo v.n))
theorem sumS_comm (p : Int × Int) (u v : Val) : sumS (sumS p u) v = sumS (sumS p v) u := by
  unfold sumS
  simp only [Wd.addHi_eq, Wd.addLo_eq]
  have b1 := Wd.isU_ofLo u.n
  have b2 := Wd.isU_ofLo v.n
  generalize Wd.ofLo u.n = lu at *
  generalize Wd.ofLo v.n = lv at *
  generalize Wd.ofHi u.n = hu at *
  generalize Wd.ofHi v.n = hv at *
  obtain ⟨a, b⟩ := p
  unfold Wd.isU at b1 b2
  simp only [Prod.mk.injEq]
  refine ⟨?_, by omega⟩
  have e1 : (b + lu) / 18446744073709551616 + ((b + lu) % 18446744073709551616 + lv) / 18446744073709551616 = (b + lv) / 18446744073709551616 + ((b + lv) % 18446744073709551616 + lu) / 18446744073709551616 := by omega
  generalize (b + lu) / 18446744073709551616 = p1 at *
  generalize ((b + lu) % 18446744073709551616 + lv) / 18446744073709551616 = p2 at *
  generalize (b + lv) / 18446744073709551616 = p3 at *
  generalize ((b + lv) % 18446744073709551616 + lu) / 18446744073709551616 = p4 at *
  omega
theorem sum_perm {l m : List Val} (hp : l.Perm m) : sumW l = sumW m := by
  have key : ∀ p : Int × Int, l.foldl sumS p = m.foldl sumS p := by
    induction hp with
    | nil => intro p; rfl
    | cons x _ ih => intro p; exact ih (sumS p x)
    | swap x y l => intro p; simp only [List.foldl_cons]; rw [sumS_comm]
    | trans _ _ i1 i2 => intro p; rw [i1, i2]
  exact key (0, 0)
theorem aggF_perm {cs : List Col} {a : Ag} {g h : List (List Val)} (ha : agE cs a = 0) (hp : g.Perm h) (hf : Fit cs g) : aggF cs a g = aggF cs a h := by
  obtain ⟨_, _, c0, c1⟩ := agE_parts ha
  obtain ⟨op, col⟩ := a
  dsimp only at c0 c1
  obtain ⟨K, rfl⟩ : ∃ K : Nat, col = (K : Int) := ⟨col.toNat, by omega⟩
  have hK : K < cs.length := by omega
  have vp := vals_perm hp K
  have hv := vals_ok hf hK
  unfold aggF
  dsimp only
  rw [Int.toNat_natCast, hp.length_eq, vp.length_eq, sum_perm vp]
  by_cases e : valsC g K = []
  · have e2 : valsC h K = [] := by rw [e] at vp; exact vp.nil_eq.symm
    rw [if_pos e, if_pos e2]
  · have e2 : ¬ valsC h K = [] := fun q => e (by rw [q] at vp; exact vp.eq_nil)
    rw [if_neg e, if_neg e2, minV_perm vp e hv, maxV_perm vp e hv]
theorem groupF_perm {cs : List Col} {gr : List Int} {ag : List Ag} {g h : List (List Val)} (hin : InC cs.length gr) (hag : ∀ a ∈ ag, agE cs a = 0) (hp : g.Perm h) (hf : Fit cs g) (he : ∀ x ∈ g, ∀ y ∈ g, grpC cs x y gr = 0) : groupF cs gr ag g = groupF cs gr ag h := by
  have e1 : aggsR cs g ag = aggsR cs h ag := by
    induction ag with
    | nil => rfl
    | cons a l ih =>
      simp only [aggsR]
      rw [aggF_perm (hag a (by simp)) hp hf, ih (fun b hb => hag b (List.mem_cons_of_mem _ hb))]
  have e2 : (ag.map fun a => (aggF cs a g).1) = ag.map fun a => (aggF cs a h).1 := List.map_congr_left fun a ha => by rw [aggF_perm (hag a ha) hp hf]
  unfold groupF
  rw [e1, e2, head_perm hin hp hf he]
theorem groups_perm {cs : List Col} {gr : List Int} {ag : List Ag} (hin : InC cs.length gr) (hag : ∀ a ∈ ag, agE cs a = 0) {A B : List (List (List Val))} (h : PermAll A B) (hf : ∀ g ∈ A, Fit cs g) (he : ∀ g ∈ A, ∀ x ∈ g, ∀ y ∈ g, grpC cs x y gr = 0) : groupsE cs gr ag A = groupsE cs gr ag B ∧ A.map (fun g => (groupF cs gr ag g).1) = B.map (fun g => (groupF cs gr ag g).1) := by
  induction h with
  | nil => exact ⟨rfl, rfl⟩
  | cons hp _ ih =>
    obtain ⟨i1, i2⟩ := ih (fun g hg => hf g (List.mem_cons_of_mem _ hg)) (fun g hg => he g (List.mem_cons_of_mem _ hg))
    have e := groupF_perm hin hag hp (hf _ (by simp)) (he _ (by simp))
    refine ⟨?_, by rw [List.map_cons, List.map_cons, i2, e]⟩
    simp only [groupsE]
    rw [e, i1]
theorem resF_perm {cs : List Col} {pr gr : List Int} {ag : List Ag} {R T : List (List Val)} (hin : InC cs.length gr) (hag : ∀ a ∈ ag, agE cs a = 0) (hp : R.Perm T) (hf : Fit cs R) (h0 : ag.length ≠ 0) : resF cs pr gr ag R = resF cs pr gr ag T := by
  have key : groupsE cs gr ag (groupsF cs gr R) = groupsE cs gr ag (groupsF cs gr T) ∧ (groupsF cs gr R).map (fun g => (groupF cs gr ag g).1) = (groupsF cs gr T).map (fun g => (groupF cs gr ag g).1) := by
    unfold groupsF
    by_cases q : R = [] ∧ gr = []
    · have q2 : T = [] ∧ gr = [] := ⟨by rw [q.1] at hp; exact hp.nil_eq.symm, q.2⟩
      rw [if_pos q, if_pos q2]; exact ⟨rfl, rfl⟩
    · have q2 : ¬ (T = [] ∧ gr = []) := fun e => q ⟨by rw [e.1] at hp; exact hp.eq_nil, e.2⟩
      rw [if_neg q, if_neg q2]
      have pre := grpC_pre cs gr
      have G := Srt.grp_good pre R
      refine groups_perm hin hag (good_perm pre _ _ G (Srt.grp_good pre T) (((Srt.grp_perm pre R).trans hp).trans (Srt.grp_perm pre T).symm)) (fun g hg r hr => hf r ((Srt.grp_perm pre R).mem_iff.1 (List.mem_flatten.2 ⟨g, hg, hr⟩))) (fun g hg => G.eq g hg)
  unfold resF
  rw [if_neg h0, if_neg h0, key.1, key.2]
end Go.Proofs.Ytpahoenanfjhpaa
