/-
  THE HEADS' METHODS Swap, Push and Pop. Conditions: each theorem states its own.
-/
import Derived.Test.YtgooffpmiilicaaHpm
import Derived.Test.YtgooffpmiilicaaRst
import Derived.BigRegion
set_option linter.unusedVariables false
set_option linter.unusedSimpArgs false
namespace Go.Proofs.Ytgooffpmiilicaa
open Go.RowKit Srt
theorem hd_set : ∀ (l : List Hd) (i : Nat) (x : Hd), ((l.flatMap hdC).set (i * 2) x.v).set (i * 2 + 1) (.int .i64 (x.num : Int)) = (l.set i x).flatMap hdC
  | [], i, x => by simp
  | y :: l, 0, x => by simp [hdC]
  | y :: l, i + 1, x => by
    have e1 : (i + 1) * 2 = i * 2 + 1 + 1 := by omega
    have e2 : (i + 1) * 2 + 1 = (i * 2 + 1) + 1 + 1 := by omega
    rw [e2, e1, List.flatMap_cons, List.set_cons_succ, List.flatMap_cons, ← hd_set l i x]
    simp [hdC]
theorem toL_upd {α : Type} (f : Nat → α) (n i : Nat) (x : α) : (toL f n).set i x = toL (upd f i x) n := by
  apply List.ext_getElem
  · simp [toL_len]
  intro k h1 h2
  rw [List.getElem_set, toL_get, toL_get]
  unfold upd
  by_cases e : i = k
  · rw [if_pos e, if_pos e.symm]
  · rw [if_neg e, if_neg (fun q => e q.symm)]
theorem upd_swp {α : Type} (f : Nat → α) (i k : Nat) : upd (upd f i (f k)) k (f i) = swp f i k := by
  funext j
  unfold upd swp
  by_cases e1 : j = k <;> by_cases e2 : j = i
  · subst e1 e2; simp
  · rw [if_pos e1, if_neg e2, if_pos e1]
  · rw [if_neg e1, if_pos e2, if_pos e2]
  · rw [if_neg e1, if_neg e2, if_neg e2, if_neg e1]
theorem HpM.put {w : World} {A B0 hb : Nat} {cv : Value} {cs : List Col} {K : Nat} {f : Nat → Hd} {n g cap : Nat} (h : HpM w A B0 hb cv cs K (.slice (some ⟨g, 0, none⟩) n cap) f n) (i : Nat) (x : Hd) (hx : RecsAt w A x.v x.lst) :
    HpM ((w.setCell ⟨g, i * 2, none⟩ x.v).setCell ⟨g, i * 2 + 1, none⟩ (.int .i64 (x.num : Int))) A B0 hb cv cs K (.slice (some ⟨g, 0, none⟩) n cap) (upd f i x) n ∧
    Mv (fun k => k = g) w ((w.setCell ⟨g, i * 2, none⟩ x.v).setCell ⟨g, i * 2 + 1, none⟩ (.int .i64 (x.num : Int))) := by
  have hg := h.ne g rfl
  obtain ⟨o1, _⟩ := World.ownsRow.stored h.own (i * 2) x.v
  obtain ⟨o2, _⟩ := World.ownsRow.stored o1 (i * 2 + 1) (.int .i64 (x.num : Int))
  rw [hd_set, toL_upd] at o2
  have hB := (h.own.lt g rfl).1
  have hgA : A ≤ g := Nat.le_trans h.ab hB
  have b : Below A w ((w.setCell ⟨g, i * 2, none⟩ x.v).setCell ⟨g, i * 2 + 1, none⟩ (.int .i64 (x.num : Int))) := ((Below.refl A w).setCell (p := ⟨g, i * 2, none⟩) hgA _).setCell (p := ⟨g, i * 2 + 1, none⟩) hgA _
  have oth : ∀ q, ((w.setCell ⟨g, i * 2, none⟩ x.v).setCell ⟨g, i * 2 + 1, none⟩ (.int .i64 (x.num : Int))).cell? ⟨hb, q, none⟩ = w.cell? ⟨hb, q, none⟩ := fun q => by
    rw [World.cell?_setCell_other (h := by intro e; simp only [Addr.mk.injEq] at e; omega), World.cell?_setCell_other (h := by intro e; simp only [Addr.mk.injEq] at e; omega)]
  refine ⟨⟨o2, (oth 0).trans h.s0, (oth 1).trans h.s1, (oth 2).trans h.s2, by simpa using h.lt, h.lo, h.ab, h.ne, fun q => by rw [World.frozen?_setCell, World.frozen?_setCell]; exact h.fr q, h.cols.mono b (Nat.le_refl _), h.key, fun k hk => ?_⟩,
    ((Mv.refl (fun k => k = g) w).st (p := ⟨g, i * 2, none⟩) (.inl rfl) _).st (p := ⟨g, i * 2 + 1, none⟩) (.inl rfl) _⟩
  by_cases e : k = i
  · subst e; rw [upd_s]; exact hx.mono b (Nat.le_refl _)
  · rw [upd_o f x e]; exact (h.recs k hk).mono b (Nat.le_refl _)
theorem HpM.drew {w : World} {A B0 hb : Nat} {cv : Value} {cs : List Col} {K : Nat} {lv : Value} {f : Nat → Hd} {n : Nat} (h : HpM w A B0 hb cv cs K lv f n) : HpM w.drew A B0 hb cv cs K lv f n := h.on (Below.refl _ _).drew
def SwPost (w : World) (A B0 hb : Nat) (cv : Value) (cs : List Col) (K : Nat) (lv : Value) (f : Nat → Hd) (n : Nat) (e : Ending) (w' : World) : Prop :=
  e = .returned (.tuple #[]) ∧ HpM w' A B0 hb cv cs K lv f n ∧ Mv (fun k => lv.ownBlock = some k) w w'
set_option maxRecDepth 8000 in
set_option maxHeartbeats 1000000 in
theorem swap_any {w : World} {A B0 hb : Nat} {cv : Value} {cs : List Col} {K : Nat} {lv : Value} {f : Nat → Hd} {n : Nat} (hM : HpM w A B0 hb cv cs K lv f n) (i k : Nat) (hi : i < n) (hk : k < n) :
    Calls Try.prog 96 #[.pointer (some ⟨hb, 0, none⟩), .int .i64 (i : Int), .int .i64 (k : Int)] w (SwPost w A B0 hb cv cs K lv (swp f i k) n) := by
  obtain ⟨g, cap, hlv, hcap, hg0, hg, hgh, hfr, HC⟩ := hM.row (by omega)
  subst hlv
  have P1 := hM.put i (f k) (hM.recs k hk)
  have P2 := P1.1.put k (f i) (by
    have := P1.1.recs
    exact (hM.recs i hi).mono (((Below.refl A w).setCell (p := ⟨g, i * 2, none⟩) (Nat.le_trans hM.ab hg0) _).setCell (p := ⟨g, i * 2 + 1, none⟩) (Nat.le_trans hM.ab hg0) _) (Nat.le_refl _))
  rw [upd_swp] at P2
  have PP := Lib.hid (And.intro P2.1 (P1.2.trans P2.2))
  obtain ⟨a0, a1⟩ := HC i hi
  obtain ⟨b0, b1⟩ := HC k hk
  have s2 := hM.s2
  have hlt := hM.lt
  have in1 : (i : Int) < (n : Int) := by omega
  have in2 : (k : Int) < (n : Int) := by omega
  obtain ⟨xa, xc, hxv⟩ := recs_end (hM.recs i hi)
  obtain ⟨ya, yc, hyv⟩ := recs_end (hM.recs k hk)
  unfold SwPost
  obtain ⟨p, hp⟩ : ∃ p : Int, ((f i).num : Int) = p := ⟨_, rfl⟩
  obtain ⟨q, hq⟩ : ∃ q : Int, ((f k).num : Int) = q := ⟨_, rfl⟩
  rw [hxv, hyv, hp, hq] at PP
  rw [hxv] at a0
  rw [hp] at a1
  rw [hyv] at b0
  rw [hq] at b1
  generalize (f i).lst.length = xt at *
  generalize (f k).lst.length = yt at *
  generalize swp f i k = F at *
  clear P1 P2 HC hM hxv hyv hp hq
  by_cases hik : i = k
  · subst hik
    have q1 : i * 2 ≠ i * 2 + 1 := by omega
    have q2 : i * 2 + 1 ≠ i * 2 := by omega
    injection (a0.symm.trans b0) with e0
    injection e0 with e0 e1 e2
    subst e1
    subst e0 e2
    injection (a1.symm.trans b1) with e3
    injection e3 with e3 e4
    subst e4
    clear b0 b1
    go_enter Try.func96, Try.ntmps96
    go_region
    go_end0
    exact ⟨rfl, PP.out.1.drew, (PP.out.2.mono (fun k _ h => by subst h; rfl)).drew⟩
  · have n1 : i * 2 ≠ k * 2 := by omega
    have n2 : i * 2 + 1 ≠ k * 2 := by omega
    have n3 : i * 2 ≠ k * 2 + 1 := by omega
    have n4 : i * 2 + 1 ≠ k * 2 + 1 := by omega
    have n5 := n1.symm
    have n6 := n2.symm
    have n7 := n3.symm
    have n8 := n4.symm
    go_enter Try.func96, Try.ntmps96
    go_region
    go_end0
    exact ⟨rfl, PP.out.1.drew, (PP.out.2.mono (fun k _ h => by subst h; rfl)).drew⟩
end Go.Proofs.Ytgooffpmiilicaa
