/-
  BOUNDS: the laws of Meet and Join in plain Lean. Conditions: none.
-/
import Derived.Test.YtjojnakgadfgmaaJoin
import Derived.Test.YtjojnakgadfgmaaOrd
set_option linter.unusedVariables false
set_option linter.unusedSimpArgs false
namespace Go.Proofs.Ytjojnakgadfgmaa
theorem leV_total (t : Int) (x y : Val) : leV t x y ∨ leV t y x := by
  rcases Int.le_total (cmpV t x y) 0 with h | h
  · exact .inl ((cmpV_le _ _ _).1 h)
  · exact .inr ((cmpV_ge _ _ _).1 h)
theorem leV_refl (t : Int) (x : Val) : leV t x x := by rcases leV_total t x x with h | h <;> exact h
theorem gt_iff (t : Int) (x y : Val) : 0 < cmpV t x y ↔ ¬ leV t x y := by rw [← cmpV_le]; omega
theorem lt_iff (t : Int) (x y : Val) : cmpV t x y < 0 ↔ ¬ leV t y x := by rw [← cmpV_ge]; omega
theorem check_iff (t : Int) (b : Bnd) : checkF t b = true ↔ endF b.hasLo b.lo = true ∧ endF b.hasHi b.hi = true ∧ (b.some = true ∨ (b.hasLo = false ∧ b.hasHi = false)) ∧ (b.hasLo = true → b.hasHi = true → leV t b.lo b.hi) := by
  unfold checkF
  rw [← cmpV_le]
  cases b.hasLo <;> cases b.hasHi <;> cases b.some <;> simp [and_assoc]
theorem has_iff {t : Int} {b : Bnd} (h : checkF t b = true) (v : Val) : touchF t b v v = true ↔ (b.null = true ∧ v.null = true) ∨ (b.some = true ∧ v.null = false ∧ (b.hasLo = true → leV t b.lo v) ∧ (b.hasHi = true → leV t v b.hi)) := by
  unfold touchF
  rw [h, ← cmpV_ge t v b.lo, ← cmpV_le t v b.hi]
  cases b.hasLo <;> cases b.hasHi <;> cases b.some <;> cases b.null <;> cases v.null <;> simp
def noneB (n : Bool) : Bnd := ⟨n, false, false, false, Val.o, Val.o⟩
theorem none_check (t : Int) (n : Bool) : checkF t (noneB n) = true := by rw [check_iff]; simp [noneB, endF, isZ, Val.o]
theorem loF_has {t : Int} (a b : Bnd) (v : Val) : ((loF t a b).1 = true → leV t (loF t a b).2 v) ↔ ((a.hasLo = true → leV t a.lo v) ∧ (b.hasLo = true → leV t b.lo v)) := by
  have h1 := leV_total t b.lo a.lo
  have h2 := @leV_trans t b.lo a.lo v
  have h3 := @leV_trans t a.lo b.lo v
  unfold loF loC
  cases a.hasLo <;> cases b.hasLo <;> by_cases hc : leV t b.lo a.lo <;> simp [gt_iff, hc] <;> grind
theorem hiF_has {t : Int} (a b : Bnd) (v : Val) : ((hiF t a b).1 = true → leV t v (hiF t a b).2) ↔ ((a.hasHi = true → leV t v a.hi) ∧ (b.hasHi = true → leV t v b.hi)) := by
  have h1 := leV_total t b.hi a.hi
  have h2 := @leV_trans t v b.hi a.hi
  have h3 := @leV_trans t v a.hi b.hi
  unfold hiF hiC
  cases a.hasHi <;> cases b.hasHi <;> by_cases hc : leV t a.hi b.hi <;> simp [lt_iff, hc] <;> grind
theorem loF_end {t : Int} {a b : Bnd} (h1 : endF a.hasLo a.lo = true) (h2 : endF b.hasLo b.lo = true) : endF (loF t a b).1 (loF t a b).2 = true := by
  unfold loF
  cases h : loC t a b
  · simpa using h1
  · have : b.hasLo = true := by unfold loC at h; revert h; cases b.hasLo <;> simp
    rw [this] at h2; simpa using h2
theorem hiF_end {t : Int} {a b : Bnd} (h1 : endF a.hasHi a.hi = true) (h2 : endF b.hasHi b.hi = true) : endF (hiF t a b).1 (hiF t a b).2 = true := by
  unfold hiF
  cases h : hiC t a b
  · simpa using h1
  · have : b.hasHi = true := by unfold hiC at h; revert h; cases b.hasHi <;> simp
    rw [this] at h2; simpa using h2
theorem meetF_of {t : Int} {a b : Bnd} (ha : checkF t a = true) (hb : checkF t b = true) : meetF t a b = if a.some = true ∧ b.some = true ∧ checkF t (meetOut t a b) = true then meetOut t a b else noneB (a.null && b.null) := by
  unfold meetF noneB
  rw [if_neg (by simp [ha, hb])]
  cases a.some <;> cases b.some <;> simp
theorem meet_check {t : Int} {a b : Bnd} (ha : checkF t a = true) (hb : checkF t b = true) : checkF t (meetF t a b) = true := by
  rw [meetF_of ha hb]
  split
  · rename_i h; exact h.2.2
  · exact none_check _ _
theorem meet_has {t : Int} {a b : Bnd} (ha : checkF t a = true) (hb : checkF t b = true) (v : Val) : touchF t (meetF t a b) v v = (touchF t a v v && touchF t b v v) := by
  rw [Bool.eq_iff_iff, Bool.and_eq_true, has_iff ha, has_iff hb, has_iff (meet_check ha hb), meetF_of ha hb]
  have hL := loF_has (t := t) a b v
  have hH := hiF_has (t := t) a b v
  by_cases hs : a.some = true ∧ b.some = true ∧ checkF t (meetOut t a b) = true
  · rw [if_pos hs]
    unfold meetOut
    dsimp only
    rw [hL, hH]
    obtain ⟨s1, s2, _⟩ := hs
    rw [s1, s2]
    cases a.null <;> cases b.null <;> cases v.null <;> simp <;> grind
  · rw [if_neg hs]
    unfold noneB
    dsimp only
    by_cases s1 : a.some = true <;> by_cases s2 : b.some = true
    · have hk : ¬ checkF t (meetOut t a b) = true := fun h => hs ⟨s1, s2, h⟩
      rw [check_iff] at hk ha hb
      have e1 := loF_end (t := t) ha.1 hb.1
      have e2 := hiF_end (t := t) ha.2.1 hb.2.1
      have hn : ¬ ((loF t a b).1 = true → (hiF t a b).1 = true → leV t (loF t a b).2 (hiF t a b).2) := fun h => hk ⟨e1, e2, .inl s1, h⟩
      have hx : ¬ (((loF t a b).1 = true → leV t (loF t a b).2 v) ∧ ((hiF t a b).1 = true → leV t v (hiF t a b).2)) := fun h => hn fun p q => leV_trans (h.1 p) (h.2 q)
      rw [hL, hH] at hx
      cases a.null <;> cases b.null <;> cases v.null <;> simp [s1, s2] <;> grind
    all_goals (simp only [Bool.not_eq_true] at s1 s2; rw [s1, s2]; cases a.null <;> cases b.null <;> cases v.null <;> simp)
theorem loJ_end {t : Int} {a b : Bnd} (h1 : endF a.hasLo a.lo = true) (h2 : endF b.hasLo b.lo = true) : endF (loJ t a b).1 (loJ t a b).2 = true := by
  unfold loJ
  revert h1 h2
  cases a.hasLo <;> cases b.hasLo <;> by_cases hc : cmpV t b.lo a.lo < 0 <;> simp [hc, endF, isZ, Val.o] <;> (try intros) <;> assumption
theorem hiJ_end {t : Int} {a b : Bnd} (h1 : endF a.hasHi a.hi = true) (h2 : endF b.hasHi b.hi = true) : endF (hiJ t a b).1 (hiJ t a b).2 = true := by
  unfold hiJ
  revert h1 h2
  cases a.hasHi <;> cases b.hasHi <;> by_cases hc : 0 < cmpV t b.hi a.hi <;> simp [hc, endF, isZ, Val.o] <;> (try intros) <;> assumption
/-- a lower end of the union lies at or below each of both -/
theorem loJ_le {t : Int} {a b : Bnd} (h : (loJ t a b).1 = true) : a.hasLo = true ∧ b.hasLo = true ∧ leV t (loJ t a b).2 a.lo ∧ leV t (loJ t a b).2 b.lo ∧ ((loJ t a b).2 = a.lo ∨ (loJ t a b).2 = b.lo) := by
  have h1 := leV_total t b.lo a.lo
  have h2 := leV_refl t a.lo
  have h3 := leV_refl t b.lo
  revert h
  unfold loJ
  cases a.hasLo <;> cases b.hasLo <;> by_cases hc : leV t a.lo b.lo <;> simp [lt_iff, hc] <;> grind
theorem hiJ_ge {t : Int} {a b : Bnd} (h : (hiJ t a b).1 = true) : a.hasHi = true ∧ b.hasHi = true ∧ leV t a.hi (hiJ t a b).2 ∧ leV t b.hi (hiJ t a b).2 ∧ ((hiJ t a b).2 = a.hi ∨ (hiJ t a b).2 = b.hi) := by
  have h1 := leV_total t b.hi a.hi
  have h2 := leV_refl t a.hi
  have h3 := leV_refl t b.hi
  revert h
  unfold hiJ
  cases a.hasHi <;> cases b.hasHi <;> by_cases hc : leV t b.hi a.hi <;> simp [gt_iff, hc] <;> grind
theorem loJ_has {a b : Bnd} {t : Int} (h : (loJ t a b).1 = false) : a.hasLo = false ∨ b.hasLo = false := by
  revert h
  unfold loJ
  cases a.hasLo <;> cases b.hasLo <;> by_cases hc : cmpV t b.lo a.lo < 0 <;> simp [hc]
theorem hiJ_has {a b : Bnd} {t : Int} (h : (hiJ t a b).1 = false) : a.hasHi = false ∨ b.hasHi = false := by
  revert h
  unfold hiJ
  cases a.hasHi <;> cases b.hasHi <;> by_cases hc : 0 < cmpV t b.hi a.hi <;> simp [hc]
def joinOut (t : Int) (a b : Bnd) : Bnd := ⟨a.null || b.null, true, (loJ t a b).1, (hiJ t a b).1, (loJ t a b).2, (hiJ t a b).2⟩
theorem joinF_of {t : Int} {a b : Bnd} (ha : checkF t a = true) (hb : checkF t b = true) : joinF t a b = if a.some = false then { b with null := a.null || b.null } else if b.some = false then { a with null := a.null || b.null } else joinOut t a b := by
  unfold joinF joinOut
  rw [if_neg (by simp [ha, hb])]
  cases a.some <;> cases b.some <;> simp
theorem check_null {t : Int} {b : Bnd} (n : Bool) (h : checkF t b = true) : checkF t { b with null := n } = true := h
theorem join_check {t : Int} {a b : Bnd} (ha : checkF t a = true) (hb : checkF t b = true) : checkF t (joinF t a b) = true := by
  rw [joinF_of ha hb]
  split
  · exact hb
  · split
    · exact ha
    · rw [check_iff] at *
      refine ⟨loJ_end ha.1 hb.1, hiJ_end ha.2.1 hb.2.1, .inl rfl, fun p q => ?_⟩
      obtain ⟨p1, p2, p3, p4, p5⟩ := loJ_le p
      obtain ⟨q1, q2, q3, q4, q5⟩ := hiJ_ge q
      exact leV_trans p3 (leV_trans (ha.2.2.2 p1 q1) q3)
theorem join_has {t : Int} {a b : Bnd} (ha : checkF t a = true) (hb : checkF t b = true) (v : Val) (h : touchF t a v v = true ∨ touchF t b v v = true) : touchF t (joinF t a b) v v = true := by
  rw [has_iff ha, has_iff hb] at h
  rw [has_iff (join_check ha hb), joinF_of ha hb]
  split
  · rename_i s1
    rw [s1] at h
    dsimp only
    revert h
    cases a.null <;> cases b.null <;> cases v.null <;> simp
  · split
    · rename_i s1 s2
      rw [s2] at h
      dsimp only
      revert h
      cases a.null <;> cases b.null <;> cases v.null <;> simp
    · rename_i s1 s2
      unfold joinOut
      dsimp only
      have L : ((a.hasLo = true → leV t a.lo v) ∨ (b.hasLo = true → leV t b.lo v)) → (loJ t a b).1 = true → leV t (loJ t a b).2 v := by
        rintro (k | k) p <;> obtain ⟨p1, p2, p3, p4, p5⟩ := loJ_le p
        · exact leV_trans p3 (k p1)
        · exact leV_trans p4 (k p2)
      have H : ((a.hasHi = true → leV t v a.hi) ∨ (b.hasHi = true → leV t v b.hi)) → (hiJ t a b).1 = true → leV t v (hiJ t a b).2 := by
        rintro (k | k) p <;> obtain ⟨p1, p2, p3, p4, p5⟩ := hiJ_ge p
        · exact leV_trans (k p1) p3
        · exact leV_trans (k p2) p4
      rcases h with (⟨h1, h2⟩ | ⟨h1, h2, h3, h4⟩) | (⟨h1, h2⟩ | ⟨h1, h2, h3, h4⟩)
      · exact .inl ⟨by simp [h1], h2⟩
      · exact .inr ⟨rfl, h2, L (.inl h3), H (.inl h4)⟩
      · exact .inl ⟨by simp [h1], h2⟩
      · exact .inr ⟨rfl, h2, L (.inr h3), H (.inr h4)⟩
/-- what it says that the meet with d changes nothing -/
structure Under (t : Int) (a d : Bnd) : Prop where
  null : a.null = true → d.null = true
  some : a.some = true → d.some = true
  lo : a.some = true → d.hasLo = true → a.hasLo = true ∧ leV t d.lo a.lo
  hi : a.some = true → d.hasHi = true → a.hasHi = true ∧ leV t a.hi d.hi
theorem under_of {t : Int} {a d : Bnd} (ha : checkF t a = true) (hd : checkF t d = true) (h : meetF t a d = a) : Under t a d := by
  rw [meetF_of ha hd] at h
  by_cases hs : a.some = true ∧ d.some = true ∧ checkF t (meetOut t a d) = true
  · rw [if_pos hs] at h
    have hn : (a.null && d.null) = a.null := congrArg Bnd.null h
    have h1 : (loF t a d).1 = a.hasLo := congrArg Bnd.hasLo h
    have h2 : (loF t a d).2 = a.lo := congrArg Bnd.lo h
    have h3 : (hiF t a d).1 = a.hasHi := congrArg Bnd.hasHi h
    have h4 : (hiF t a d).2 = a.hi := congrArg Bnd.hi h
    have r1 := leV_refl t a.lo
    have r2 := leV_refl t a.hi
    refine ⟨fun p => ?_, fun _ => hs.2.1, fun _ p => ?_, fun _ p => ?_⟩
    · revert hn; rw [p]; simp
    · revert h1 h2; unfold loF loC; rw [p]; cases a.hasLo <;> by_cases hc : leV t d.lo a.lo <;> simp [gt_iff, hc] <;> (intro e; rw [e] at hc; exact hc r1)
    · revert h3 h4; unfold hiF hiC; rw [p]; cases a.hasHi <;> by_cases hc : leV t a.hi d.hi <;> simp [lt_iff, hc] <;> (intro e; rw [e] at hc; exact hc r2)
  · rw [if_neg hs] at h
    have hn : (a.null && d.null) = a.null := congrArg Bnd.null h
    have h1 : false = a.some := congrArg Bnd.some h
    refine ⟨fun p => ?_, fun p => ?_, fun p => ?_, fun p => ?_⟩
    · revert hn; rw [p]; simp
    all_goals (rw [← h1] at p; cases p)
theorem endF_o {v : Val} (h : endF false v = true) : v = Val.o := by
  obtain ⟨n, i, s⟩ := v
  simp [endF, isZ] at h
  obtain ⟨⟨h1, h2⟩, h3⟩ := h
  have : s = ⟨#[]⟩ := toList_inj (h3.trans (by decide +kernel))
  simp [Val.o, h1, h2, this]
theorem meet_under {t : Int} {a d : Bnd} (ha : checkF t a = true) (hd : checkF t d = true) (h : Under t a d) : meetF t a d = a := by
  rw [meetF_of ha hd]
  have hn : (a.null && d.null) = a.null := by have := h.null; revert this; cases a.null <;> cases d.null <;> simp
  by_cases s1 : a.some = true
  · have c1 : loC t a d = false := by
      have := h.lo s1
      revert this; unfold loC; cases d.hasLo <;> cases a.hasLo <;> simp [gt_iff] <;> (try intros) <;> assumption
    have c2 : hiC t a d = false := by
      have := h.hi s1
      revert this; unfold hiC; cases d.hasHi <;> cases a.hasHi <;> simp [lt_iff] <;> (try intros) <;> assumption
    have e : meetOut t a d = a := by unfold meetOut loF hiF; rw [c1, c2, hn]; simp
    rw [e, if_pos ⟨s1, h.some s1, ha⟩]
  · rw [if_neg (fun k => s1 k.1), hn]
    rw [check_iff] at ha
    obtain ⟨e1, e2, e3, _⟩ := ha
    rcases e3 with e3 | ⟨e3, e4⟩
    · exact absurd e3 s1
    · rw [e3] at e1
      rw [e4] at e2
      have := endF_o e1
      have := endF_o e2
      obtain ⟨n, s, l, h, x, y⟩ := a
      simp_all [noneB]
theorem join_least {t : Int} {a b d : Bnd} (ha : checkF t a = true) (hb : checkF t b = true) (hd : checkF t d = true) (h1 : meetF t a d = a) (h2 : meetF t b d = b) : meetF t (joinF t a b) d = joinF t a b := by
  have u1 := under_of ha hd h1
  have u2 := under_of hb hd h2
  refine meet_under (join_check ha hb) hd ?_
  rw [joinF_of ha hb]
  have hn : (a.null || b.null) = true → d.null = true := by
    intro p
    rcases Bool.or_eq_true _ _ ▸ p with p | p
    · exact u1.null p
    · exact u2.null p
  split
  · exact ⟨hn, u2.some, u2.lo, u2.hi⟩
  · rename_i s1
    have s1 : a.some = true := by simpa using s1
    split
    · exact ⟨hn, u1.some, u1.lo, u1.hi⟩
    · rename_i s2
      have s2 : b.some = true := by simpa using s2
      refine ⟨hn, fun _ => u1.some s1, fun _ p => ?_, fun _ p => ?_⟩
      · obtain ⟨p1, p2⟩ := u1.lo s1 p
        obtain ⟨q1, q2⟩ := u2.lo s2 p
        have hx : (loJ t a b).1 = true := by
          cases e : (loJ t a b).1
          · rcases loJ_has e with k | k
            · rw [k] at p1; cases p1
            · rw [k] at q1; cases q1
          · rfl
        refine ⟨hx, ?_⟩
        show leV t d.lo (loJ t a b).2
        rcases (loJ_le hx).2.2.2.2 with k | k <;> rw [k] <;> assumption
      · obtain ⟨p1, p2⟩ := u1.hi s1 p
        obtain ⟨q1, q2⟩ := u2.hi s2 p
        have hx : (hiJ t a b).1 = true := by
          cases e : (hiJ t a b).1
          · rcases hiJ_has e with k | k
            · rw [k] at p1; cases p1
            · rw [k] at q1; cases q1
          · rfl
        refine ⟨hx, ?_⟩
        show leV t (hiJ t a b).2 d.hi
        rcases (hiJ_ge hx).2.2.2.2 with k | k <;> rw [k] <;> assumption
end Go.Proofs.Ytjojnakgadfgmaa
