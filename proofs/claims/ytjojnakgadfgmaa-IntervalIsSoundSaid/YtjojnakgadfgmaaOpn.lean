/-
  BOUNDS: what the laws on Meet and Join share. Conditions: none.
-/
import Derived.Test.YtjojnakgadfgmaaInt4
import Derived.Test.YtjojnakgadfgmaaIntA
import Derived.Test.YtjojnakgadfgmaaLat
import Derived.ChangeSlices
set_option linter.unusedVariables false
set_option linter.unusedSimpArgs false
namespace Go.Proofs.Ytjojnakgadfgmaa
open Go.RowKit Go.ChangeShapes Go.WideShapes Go.ChangeAt
theorem open_intsv {H : Type} {enc : TypeId × Value → H} {P : Program} {w : World} {r : Reach} {b0 : Nat} {t e : TypeId} {v : Value} {d : DataW H} {p : List MemPlace} (ht : P.underlying t = some (.slice e)) (he : P.underlying e = some (.int .i64)) (hc : P.cellsOf e = 1)
    (hv : Value.okWide P w r b0 t v) (h : DataW.Trod enc P w 0 (fun _ => true) true t v d p) : ∃ zs, IntsAt w w.heap.size v zs := by
  obtain ⟨a, l, c, rfl⟩ := okWide_slice ht hv
  obtain ⟨fuel, hf⟩ := h
  rcases open_ints ht he hc hf with ⟨hcs, _⟩ | ⟨ad, l', c', zs, hcs, _, hl, hm, hz, _, hcell, hw⟩
  · simp [Value.cells] at hcs
    obtain ⟨rfl, rfl, rfl⟩ := hcs
    exact ⟨[], by simp, by simp, .inl ⟨rfl, _, _, rfl⟩⟩
  · simp [Value.cells] at hcs
    obtain ⟨rfl, rfl, rfl⟩ := hcs
    simp at hz
    have hlen : (zs.take l).length = l := by simp; omega
    refine ⟨zs.take l, fun z hz' => ?_, ?_, ?_⟩
    · have := hw z (List.mem_of_mem_take hz')
      simp [Lit.wf, IntKind.min, IntKind.max, IntKind.signed, IntKind.bits] at this
      unfold isI; omega
    · rw [hlen]; unfold maxLen at hm; omega
    · by_cases h0 : l = 0
      · subst h0; exact .inl ⟨by simp, _, _, rfl⟩
      · obtain ⟨b, o, s⟩ := ad
        have c0 := hcell 0 (by omega)
        have hs : s = none := by
          cases s with
          | none => rfl
          | some s => exfalso; simp only [World.cell?, Addr.add] at c0; split at c0 <;> simp at c0
        subst hs
        refine .inr ⟨b, o, c, by rw [hlen], ?_, fun j hj => ?_⟩
        · rcases Nat.lt_or_ge b w.heap.size with h1 | h1
          · exact h1
          · have : w.heap[b]? = none := Array.getElem?_eq_none h1
            simp [World.cell?, Addr.add, this] at c0
        · have := hcell j (by omega)
          rw [hlen] at hj
          have e : (zs.take l).getD j 0 = zs.getD j 0 := by simp [List.getD_eq_getElem?_getD, List.getElem?_take, hj]
          rw [e]
          by_cases hj0 : j = 0 <;> simpa [Addr.add, hj0] using this
theorem bounds_eq {lv : Value} {zs : List Int} {n1 : ByteArray} {ty sc : Int} {nu : Bool} {w : World} {an as' al ah ln : Bool} {l : Int} {ls : ByteArray} {hn : Bool} {h : Int} {hs : ByteArray} (hb : boundsF ty zs = ⟨an, as', al, ah, ⟨ln, l, ls⟩, ⟨hn, h, hs⟩⟩) (hi : IntsAt w w.heap.size lv zs) :
    Calls Try.prog 12 #[.agg #[.string n1, .int .i64 ty, .int .i64 sc, .bool nu], lv] w fun e w' => e = .returned (.agg #[.bool an, .bool as', .bool al, .bool ah, .bool ln, .int .i64 l, .string ls, .bool hn, .int .i64 h, .string hs]) ∧ Below w.heap.size w w' := by
  have := bounds_any lv zs n1 ty sc nu w hi
  rw [hb] at this
  exact this
theorem allocBnd : AllocOk Try.prog 25 #[.bool false, .bool false, .bool false, .bool false, .bool false, .int .i64 0, .string ⟨#[]⟩, .bool false, .int .i64 0, .string ⟨#[]⟩] := by
  intro ρ o w h; obtain ⟨dst, op, type, pos, after, guard⟩ := o; dsimp only at h; subst h; go_simp
theorem own : ownKnob Try.prog.godebug = none := by kernel_rfl
theorem laid : laidOutB Try.prog = true := by kernel_rfl
theorem cells3 : Try.prog.cellsOf 3 = 1 := by kernel_rfl
theorem has_eq {t : Int} {an as' al ah ln : Bool} {l : Int} {ls : ByteArray} {hn : Bool} {h : Int} {hs : ByteArray} {xn : Bool} {x : Int} {xs : ByteArray} {w : World} {p : Bool} (hp : touchF t ⟨an, as', al, ah, ⟨ln, l, ls⟩, ⟨hn, h, hs⟩⟩ ⟨xn, x, xs⟩ ⟨xn, x, xs⟩ = p) : Calls Try.prog 18 #[.int .i64 t, .agg #[.bool an, .bool as', .bool al, .bool ah, .bool ln, .int .i64 l, .string ls, .bool hn, .int .i64 h, .string hs], .agg #[.bool xn, .int .i64 x, .string xs]] w fun e w' => e = .returned (.bool p) ∧ Below w.heap.size w w' := by
  rw [← hp]
  exact has_any _ _ _ _ _ _ _ _ _ _ _ _ _ _ _
theorem meet_eq {t : Int} {an as' al ah ln : Bool} {l : Int} {ls : ByteArray} {hn : Bool} {h : Int} {hs : ByteArray} {bn bs bl bh lm : Bool} {m : Int} {ms : ByteArray} {gn : Bool} {g : Int} {gs : ByteArray} {cn cs cl ch lp : Bool} {o : Int} {os : ByteArray} {rn : Bool} {r : Int} {rs : ByteArray} {w : World} (hp : meetF t ⟨an, as', al, ah, ⟨ln, l, ls⟩, ⟨hn, h, hs⟩⟩ ⟨bn, bs, bl, bh, ⟨lm, m, ms⟩, ⟨gn, g, gs⟩⟩ = ⟨cn, cs, cl, ch, ⟨lp, o, os⟩, ⟨rn, r, rs⟩⟩) : Calls Try.prog 22 #[.int .i64 t, .agg #[.bool an, .bool as', .bool al, .bool ah, .bool ln, .int .i64 l, .string ls, .bool hn, .int .i64 h, .string hs], .agg #[.bool bn, .bool bs, .bool bl, .bool bh, .bool lm, .int .i64 m, .string ms, .bool gn, .int .i64 g, .string gs]] w fun e w' => e = .returned (.agg #[.bool cn, .bool cs, .bool cl, .bool ch, .bool lp, .int .i64 o, .string os, .bool rn, .int .i64 r, .string rs]) ∧ Below w.heap.size w w' := by
  have := meet_any t an as' al ah ln l ls hn h hs bn bs bl bh lm m ms gn g gs w
  rw [hp] at this
  exact this
theorem join_eq {t : Int} {an as' al ah ln : Bool} {l : Int} {ls : ByteArray} {hn : Bool} {h : Int} {hs : ByteArray} {bn bs bl bh lm : Bool} {m : Int} {ms : ByteArray} {gn : Bool} {g : Int} {gs : ByteArray} {cn cs cl ch lp : Bool} {o : Int} {os : ByteArray} {rn : Bool} {r : Int} {rs : ByteArray} {w : World} (hp : joinF t ⟨an, as', al, ah, ⟨ln, l, ls⟩, ⟨hn, h, hs⟩⟩ ⟨bn, bs, bl, bh, ⟨lm, m, ms⟩, ⟨gn, g, gs⟩⟩ = ⟨cn, cs, cl, ch, ⟨lp, o, os⟩, ⟨rn, r, rs⟩⟩) : Calls Try.prog 23 #[.int .i64 t, .agg #[.bool an, .bool as', .bool al, .bool ah, .bool ln, .int .i64 l, .string ls, .bool hn, .int .i64 h, .string hs], .agg #[.bool bn, .bool bs, .bool bl, .bool bh, .bool lm, .int .i64 m, .string ms, .bool gn, .int .i64 g, .string gs]] w fun e w' => e = .returned (.agg #[.bool cn, .bool cs, .bool cl, .bool ch, .bool lp, .int .i64 o, .string os, .bool rn, .int .i64 r, .string rs]) ∧ Below w.heap.size w w' := by
  have := join_any t an as' al ah ln l ls hn h hs bn bs bl bh lm m ms gn g gs w
  rw [hp] at this
  exact this
def eqB (a b : Bnd) : Bool := decide (a.null = b.null) && (decide (a.some = b.some) && (decide (a.hasLo = b.hasLo) && (decide (a.hasHi = b.hasHi) && (decide (a.lo.null = b.lo.null) && (decide (a.lo.n = b.lo.n) && (decide (a.lo.s.toList = b.lo.s.toList) && (decide (a.hi.null = b.hi.null) && (decide (a.hi.n = b.hi.n) && decide (a.hi.s.toList = b.hi.s.toList)))))))))
theorem eqB_iff (a b : Bnd) : eqB a b = true ↔ a = b := by
  constructor
  · intro h
    obtain ⟨a1, a2, a3, a4, ⟨a5, a6, a7⟩, ⟨a8, a9, a0⟩⟩ := a
    obtain ⟨b1, b2, b3, b4, ⟨b5, b6, b7⟩, ⟨b8, b9, b0⟩⟩ := b
    simp [eqB] at h
    obtain ⟨h1, h2, h3, h4, h5, h6, h7, h8, h9, h0⟩ := h
    have := toList_inj h7
    have := toList_inj h0
    simp_all
  · rintro rfl
    simp [eqB]
@[go_sem high] theorem run_neB (an as' al ah ln : Bool) (l : Int) (ls : ByteArray) (hn : Bool) (h : Int) (hs : ByteArray) (bn bs bl bh lm : Bool) (m : Int) (ms : ByteArray) (gn : Bool) (g : Int) (gs : ByteArray) (w : World) :
    (binOp .neq 25 (.agg #[.bool an, .bool as', .bool al, .bool ah, .bool ln, .int .i64 l, .string ls, .bool hn, .int .i64 h, .string hs]) (.agg #[.bool bn, .bool bs, .bool bl, .bool bh, .bool lm, .int .i64 m, .string ms, .bool gn, .int .i64 g, .string gs])).run Try.prog w = .ok (.bool (!eqB ⟨an, as', al, ah, ⟨ln, l, ls⟩, ⟨hn, h, hs⟩⟩ ⟨bn, bs, bl, bh, ⟨lm, m, ms⟩, ⟨gn, g, gs⟩⟩)) w := by
  rw [run_neq_struct]
  unfold eqB
  simp [go_sem]
  repeat' split
  all_goals simp [*]
@[go_sem high] theorem run_eqB (an as' al ah ln : Bool) (l : Int) (ls : ByteArray) (hn : Bool) (h : Int) (hs : ByteArray) (bn bs bl bh lm : Bool) (m : Int) (ms : ByteArray) (gn : Bool) (g : Int) (gs : ByteArray) (w : World) :
    (binOp .eql 25 (.agg #[.bool an, .bool as', .bool al, .bool ah, .bool ln, .int .i64 l, .string ls, .bool hn, .int .i64 h, .string hs]) (.agg #[.bool bn, .bool bs, .bool bl, .bool bh, .bool lm, .int .i64 m, .string ms, .bool gn, .int .i64 g, .string gs])).run Try.prog w = .ok (.bool (eqB ⟨an, as', al, ah, ⟨ln, l, ls⟩, ⟨hn, h, hs⟩⟩ ⟨bn, bs, bl, bh, ⟨lm, m, ms⟩, ⟨gn, g, gs⟩⟩)) w := by
  rw [run_eql_struct]
  unfold eqB
  simp [go_sem]
  repeat' split
  all_goals simp [*]
theorem sumB {t : Int} {zs : List Int} {b : Bnd} (h : boundsF t zs = b) : checkF t b = true := h ▸ boundsF_check t zs
end Go.Proofs.Ytjojnakgadfgmaa
