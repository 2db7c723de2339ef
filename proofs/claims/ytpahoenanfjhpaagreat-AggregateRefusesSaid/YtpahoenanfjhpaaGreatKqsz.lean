/-
  THE MAKERS: the state of keep.Query. Conditions: each theorem states its own.
-/
import Derived.Test.YtpahoenanfjhpaaGreatKpoz
import Derived.Test.YtpahoenanfjhpaaGreatKcoz
import Derived.Test.YtpahoenanfjhpaaGreatRunz
set_option linter.unusedVariables false
set_option linter.unusedSimpArgs false
namespace Go.Proofs.YtpahoenanfjhpaaGreat
open Go.RowKit
/-- Since world W3 nothing but the source, the query and the result's variable has turned. -/
structure QS (W3 : World) (RB sb QB : Nat) (W : World) (c : Nat → Value) (r : List Int) : Prop where
  mv : Mv (fun k => k = RB ∨ k = sb ∨ k = QB) W3 W
  src : SrcAt W sb r
  q : ∀ i, i < 4 → W.cell? ⟨QB, i, none⟩ = some (c i)
  fr : ∀ i, W.frozen? ⟨QB, i, none⟩ = false
theorem QS.to {W3 W W' : World} {RB sb QB : Nat} {c : Nat → Value} {r r' : List Int} (h : QS W3 RB sb QB W c r) (h1 : sb < QB) (h2 : QB < W.heap.size) (hm : Moved sb W W') (hs : SrcAt W' sb r') : QS W3 RB sb QB W' c r' := by
  have hm' : Mv (fun k => k = sb) W W' := Mv.of_moved hm rfl
  have hn : ¬ QB = sb := by omega
  exact ⟨h.mv.trans (hm'.mono (fun k _ e => .inr (.inl e))), hs, fun i hi => (hm'.cell i h2 hn).trans (h.q i hi), fun i => (hm'.frozen i h2 hn).trans (h.fr i)⟩
theorem QS.st {W3 W : World} {RB sb QB : Nat} {c : Nat → Value} {r : List Int} (h : QS W3 RB sb QB W c r) (h1 : sb < QB) {i : Nat} (u : Value) : QS W3 RB sb QB (W.setCell ⟨QB, i, none⟩ u) (fun k => if k = i then u else c k) r := by
  refine ⟨Mv.st (S := fun k => k = RB ∨ k = sb ∨ k = QB) (p := ⟨QB, i, none⟩) h.mv (.inl (.inr (.inr rfl))) u, h.src.stn (p := ⟨QB, i, none⟩) (by show sb < QB; exact h1) u, fun k hk => ?_, fun k => by rw [World.frozen?_setCell]; exact h.fr k⟩
  by_cases e : k = i
  · subst e; rw [if_pos rfl]; exact World.cell?_setCell_same W ⟨QB, k, none⟩ _ (h.q k hk)
  · rw [if_neg e]; exact (World.cell?_setCell_other _ _ _ _ (by intro q; injection q with _ q; exact e q.symm)).trans (h.q k hk)
theorem QS.sto {W3 W : World} {RB sb QB : Nat} {c : Nat → Value} {r : List Int} (h : QS W3 RB sb QB W c r) (h1 : sb < QB) {b i : Nat} (hb : QB < b) (h3 : W3.heap.size ≤ b) (u : Value) : QS W3 RB sb QB (W.setCell ⟨b, i, none⟩ u) c r :=
  ⟨Mv.st (S := fun k => k = RB ∨ k = sb ∨ k = QB) (p := ⟨b, i, none⟩) h.mv (.inr h3) u, h.src.stn (p := ⟨b, i, none⟩) (by show sb < b; omega) u, fun k hk => (World.cell?_setCell_other _ _ _ _ (by intro q; injection q with q _; omega)).trans (h.q k hk), fun k => by rw [World.frozen?_setCell]; exact h.fr k⟩
theorem QS.al {W3 W : World} {RB sb QB : Nat} {c : Nat → Value} {r : List Int} (h : QS W3 RB sb QB W c r) (h2 : QB < W.heap.size) (o : Obj) : QS W3 RB sb QB (W.alloc o) c r := by
  have hb : Below W.heap.size W (W.alloc o) := (Below.refl _ _).alloc (Nat.le_refl _) o
  exact ⟨h.mv.on hb, h.src.al o, fun k hk => (hb.cell (p := ⟨QB, k, none⟩) h2).trans (h.q k hk), fun k => (hb.frozen (p := ⟨QB, k, none⟩) h2).trans (h.fr k)⟩
theorem QS.gr {W3 W W' : World} {RB sb QB : Nat} {c : Nat → Value} {r : List Int} {row : Option Nat} (h : QS W3 RB sb QB W c r) (h1 : sb < QB) (h2 : QB < W.heap.size) (h3 : QB < W3.heap.size) (hg : W.grownBy W' row) (hr : ∀ k, row = some k → W3.heap.size ≤ k) : QS W3 RB sb QB W' c r := by
  have hb : W'.heap[QB]? = W.heap[QB]? := hg.block QB h2 (fun e => by have := hr QB e.symm; omega)
  exact ⟨h.mv.gr hg hr, h.src.grw hg (fun k hk => by have := hr k hk; omega), fun k hk => (World.cell?_of_block (w := W) hb).trans (h.q k hk), fun k => (World.frozen?_of_block (w := W) hb).trans (h.fr k)⟩
theorem inn_mvS {S : Nat → Prop} {B0 : Nat} {w w' : World} {v : Value} {lvs : List Value} {rows : List (List Val)} (h : Inn B0 w v lvs rows) (hm : Mv S w w') (hs : ∀ k, S k → k < B0) : Inn B0 w' v lvs rows := by
  refine ⟨h.1, fun j hj hj' => ?_⟩
  obtain ⟨h1, h2⟩ := h.2 j hj hj'
  exact ⟨(h1.keep fun k hk hq => hm.block k hk (fun e => by have := (h2 k hq).1; have := hs k e; omega)).up hm.size, fun k hk => ⟨(h2 k hk).1, Nat.lt_of_lt_of_le (h2 k hk).2.1 hm.size, (h2 k hk).2.2⟩⟩
theorem outC_false {cs : List Col} {l : List Int} (h : InC cs.length l) : outC cs l = false := by
  unfold outC
  rw [List.any_eq_false]
  intro i hi
  have := h i hi
  simp; omega
theorem agsE_zero {cs : List Col} : ∀ {l : List Ag}, (∀ a ∈ l, agE cs a = 0) → agsE cs l = 0
  | [], _ => rfl
  | a :: l, h => by
    show (if agE cs a = 0 then agsE cs l else agE cs a) = 0
    rw [if_pos (h a (by simp))]; exact agsE_zero fun b hb => h b (List.mem_cons_of_mem _ hb)
theorem queryE_mk {cs : List Col} {key : Int} {ns : List Nod} {pr gr : List Int} {ag : List Ag} (hp : predF cs key ns = 0) (h1 : pr.length ≤ 16) (h2 : gr.length ≤ 16) (h3 : ag.length ≤ 16) (h4 : ¬ ((0 < ag.length ∧ 0 < pr.length) ∨ (ag.length = 0 ∧ 0 < gr.length))) (h5 : InC cs.length pr) (h6 : InC cs.length gr) (h7 : ∀ a ∈ ag, agE cs a = 0) : queryE cs key ns pr gr ag = 0 := by
  unfold queryE
  have h8 : outC cs (pr ++ gr) = false := outC_false fun i hi => by rcases List.mem_append.1 hi with q | q; exact h5 i q; exact h6 i q
  rw [if_pos hp, if_neg (by omega), if_neg h4, h8, if_neg (by decide)]
  exact agsE_zero h7
end Go.Proofs.YtpahoenanfjhpaaGreat
