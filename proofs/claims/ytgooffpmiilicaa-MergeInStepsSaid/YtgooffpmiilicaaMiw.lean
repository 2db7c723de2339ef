/-
  MERGEINSTEPS: the walk. Conditions: the choices lie in memory, the second at most 2^44 of them.
-/
import Derived.Test.YtgooffpmiilicaaZb
import Derived.Test.YtgooffpmiilicaaZc
import Derived.Test.YtgooffpmiilicaaZa
import Derived.Test.YtgooffpmiilicaaKsc
import Derived.Deep.RegionHeld3
import Derived.Deep.DeepAppendWide
set_option linter.unusedVariables false
set_option linter.unusedSimpArgs false
namespace Go.Proofs.Ytgooffpmiilicaa
open Go.RowKit Srt
theorem foldl_asc {β : Type} {d : β → β → Int} : ∀ (l acc : List β), l.Pairwise (fun x y => ¬ d y x < 0) → (∀ x ∈ l, ∀ y ∈ acc, ¬ d x y < 0) → l.foldl (fun acc x => insR d x acc) acc = l.reverse ++ acc
  | [], acc, _, _ => rfl
  | x :: r, acc, h1, h2 => by
    obtain ⟨p1, p2⟩ := List.pairwise_cons.1 h1
    have e : insR d x acc = x :: acc := by
      cases acc with
      | nil => rfl
      | cons y acc => unfold insR; rw [if_neg (h2 x (by simp) y (by simp))]
    rw [List.foldl_cons, e, foldl_asc r (x :: acc) p2 (fun z hz y hy => by
      rcases List.mem_cons.1 hy with rfl | hy
      · exact p1 z hz
      · exact h2 z (by simp [hz]) y hy)]
    simp
theorem srt_twice {β : Type} {d : β → β → Int} (hp : Pre d) {X Y : List β} (h : (srt d X).Pairwise (fun x y => d x y < 0)) : srt d (srt d X ++ Y) = srt d (X ++ Y) := by
  have h' : (srt d X).Pairwise (fun x y => ¬ d y x < 0) := h.imp fun {a b} q r => by have := hp.anti a b; omega
  have e1 : srtR d (srt d X) = srtR d X := by
    unfold srtR
    rw [foldl_asc (srt d X) [] h' (fun x _ y hy => absurd hy (by simp)), List.append_nil]
    unfold srt
    rw [List.reverse_reverse]
    rfl
  have e2 : ∀ Z : List β, srtR d (Z ++ Y) = Y.foldl (fun acc x => insR d x acc) (srtR d Z) := fun Z => by unfold srtR; rw [List.foldl_append]
  unfold srt at e1 ⊢
  rw [e2, e2, e1]
theorem steps_ok {cs : List Col} {key : Int} {Ls : List (List Rc)} (hs : schemaF cs key = 0) (h1 : ¬ 16 < Ls.length) (h2 : ∀ l ∈ Ls, l.length ≤ 1024) (h3 : ∀ l ∈ Ls, sortedF cs key l = true) : mergeE cs key Ls = 0 ∧ mergeR cs key Ls = srt (recD (tyK cs key) key) Ls.flatten :=
  mergeE_ok hs h1 (by unfold longB; rw [List.any_eq_false]; intro l hl; have := h2 l hl; simp; omega) (by unfold sortB; rw [List.all_eq_true]; exact h3)
theorem steps_bad {cs : List Col} {key : Int} {A l2 : List Rc} (hs : schemaF cs key = 0) (ha : A.length ≤ 1024) (h2 : l2.length ≤ 1024) (h3 : sortedF cs key A = false) : mergeE cs key [A, l2] = 1 ∧ mergeR cs key [A, l2] = [] :=
  mergeE_arg hs (by simp) (by unfold longB; simp; omega) (by unfold sortB; simp [h3])
theorem ints_row {w : World} {B : Nat} {v : Value} {zs : List Int} (h : IntsAt w B v zs) : SrcRow w v zs.length 1 (zs.flatMap intC) := by
  refine srcRow_of (by decide) intC (fun _ => rfl) (fun a u hu => by simp [intC] at hu; rw [hu]; rfl) zs ?_
  rcases h.2.2 with ⟨rfl, h2⟩ | ⟨b, o, c, rfl, _, hc⟩
  · exact .inl ⟨rfl, h2⟩
  · refine .inr ⟨b, o, c, rfl, fun j hj i u hu => ?_⟩
    rcases i with _ | i
    · simp [intC] at hu
      have := hc j hj
      rw [← hu, Nat.mul_one, Nat.add_zero, this]
      simp [List.getD, List.getElem?_eq_getElem hj]
    · simp [intC] at hu
theorem run_append_row_wide {P : Program} {w : World} (base : Nat) (t ty e : TypeId) (i : TypeInfo) (z : Value) (size bytes : Nat) (ht : P.underlying t = some (.slice e)) (hi : P.info? e = some i) (hz : i.zero = some z) (hsize : i.size = size) (hby : i.bytes = bytes) (hzs : z.cells.size = size) (hsz : 0 < size)
    (v : Value) (n : Nat) (xs : List Value) (hown : w.ownsRow base e size v n xs) (xv : Value) (m : Nat) (news : List Value) (hx : SrcRow w xv m size news) (h63 : n + m ≤ maxLen) (hbytes : ((n + m) + (n + m) / 4 + 192) * bytes ≤ 281474976710656) (hbase : base ≤ w.heap.size) :
    ∃ v' w', (Builtin.append_ #[t, t] ty #[v, xv]).run P w = .ok v' w' ∧ w'.ownsRow base e size v' (n + m) (xs ++ news) ∧ w.grownBy w' v.ownBlock := by
  obtain ⟨hl, h1, hx⟩ := hx
  rcases hx with ⟨rfl, a, c, rfl⟩ | ⟨a, c, rfl, hc⟩
  · have e0 : news = [] := List.eq_nil_of_length_eq_zero (by simpa using hl)
    subst e0
    cases a with
    | none =>
      refine ⟨v, w, ?_, by simpa using hown, ⟨rfl, rfl, rfl, Nat.le_refl _, fun _ _ _ => rfl⟩⟩
      rcases hown.2 with ⟨rfl, rfl⟩ | ⟨g, cap, cur, rfl, _, _, hnc, _⟩
      · simp [Builtin.append_, run_underlying ht, sizeOf, typeInfo, hi, Builtin.lenOf, Builtin.firstCells]
      · simp [Builtin.append_, run_underlying ht, sizeOf, typeInfo, hi, Builtin.lenOf, Builtin.firstCells, hnc, storeCells]
    | some a =>
      obtain ⟨v', w', h1, h2, h3, _⟩ := run_append_own_wide (P := P) (w := w) base t ty e i z size bytes ht hi hz hsize hby hzs hsz v n xs hown a 0 c [] (by simp) (fun j u hj => by simp at hj) (fun u hu => by simp at hu) (by simpa using h63) (by simpa using hbytes) hbase
      exact ⟨v', w', h1, by simpa using h2, h3⟩
  · obtain ⟨v', w', k1, h2, h3, _⟩ := run_append_own_wide (P := P) (w := w) base t ty e i z size bytes ht hi hz hsize hby hzs hsz v n xs hown a m c news hl hc h1 h63 hbytes hbase
    exact ⟨v', w', k1, h2, h3⟩
theorem step_append_row_wide {P : Program} {w : World} {ops : Array Oper} {o : Oper} {a : Act} {K : Act → World → Prop} {Q : Exit → Act → World → Prop} {E : Prop} (hgd : o.guard = none) (s x : Operand) (t : TypeId)
    (ho : o.op = .call { callee := .builtin .append, args := #[s, x], argTypes := #[t, t] })
    (base : Nat) (e : TypeId) (i : TypeInfo) (z : Value) (size bytes : Nat) (ht : P.underlying t = some (.slice e)) (hi : P.info? e = some i) (hz : i.zero = some z) (hsize : i.size = size) (hby : i.bytes = bytes) (hzs : z.cells.size = size) (hsz : 0 < size)
    (v : Value) (n : Nat) (xs : List Value) (hs : a.eval s = v) (hown : w.ownsRow base e size v n xs) (xv : Value) (m : Nat) (news : List Value) (hxv : a.eval x = xv) (hx : SrcRow w xv m size news) (h63 : n + m ≤ maxLen) (hbytes : ((n + m) + (n + m) / 4 + 192) * bytes ≤ 281474976710656) (hbase : base ≤ w.heap.size)
    (h : ∀ v' w', w'.ownsRow base e size v' (n + m) (xs ++ news) → w.grownBy w' v.ownBlock → K (a.put o.dst v') w') : if Region.wanted o (yielded ops a.tmps) = true then Oper.wp P o a w K Q else E := by
  rw [if_pos (by simp [Region.wanted, hgd])]
  obtain ⟨v', w', hr, h2, h3⟩ := run_append_row_wide (P := P) base t o.type e i z size bytes ht hi hz hsize hby hzs hsz v n xs hown xv m news hx h63 hbytes hbase
  unfold Oper.wp execOp
  simp only [ho, resolve, invoke, builtin, Sem.run_bind, Sem.run_pure, Result.andThen_ok, List.map_toArray, List.map_cons, List.map_nil, hs, hxv, hr]
  exact h v' w' h2 h3
theorem ints_cons {w : World} {base : Nat} {T : TypeId} {v : Value} {zl : List Int} (hi : ∀ z ∈ zl, isI z) (hl : zl.length ≤ 1000000000000000) (h : w.ownsRow base T 1 v (1 + zl.length) ([.int .i64 3] ++ zl.flatMap intC)) : IntsAt w w.heap.size v (3 :: zl) := by
  have e : (3 :: zl).length = 1 + zl.length := by rw [List.length_cons]; omega
  refine own_ints (e := T) (base := base) (fun z hz => ?_) (by rw [e]; omega) (by rw [e, List.flatMap_cons]; exact h)
  rcases List.mem_cons.1 hz with rfl | hz
  · unfold isI; omega
  · exact hi z hz
set_option maxRecDepth 8000 in
set_option maxHeartbeats 2000000 in
theorem miw_walk (vx vl : Value) (zx zl : List Int) (w : World) (h0 : IntsAt w w.heap.size vx zx) (h1 : IntsAt w w.heap.size vl zl) (hz : zl.length ≤ 17592186044416) :
    Calls Try.prog 8 #[vx, vl] w fun e w' => e = .returned (.bool true) ∧ Below w.heap.size w w' := by
  obtain ⟨i1, hj, hy0, hy1, hy2⟩ := info_parts infoInt1
  have H0 := Lib.hid h0
  have H1 := Lib.hid h1
  obtain ⟨za, zc, rfl⟩ := ints_end h1
  clear h0 h1
  go_enter Try.func8, Try.ntmps8
  go_upto_region 2 with (go_at_call 13; refine (keepSchema_any _ _ _ H0.out).mono ?_; rintro e w1 ⟨cv, cs, key, rfl, hc1, hs1, hl1, hb1⟩; obtain ⟨ca, cc, rfl⟩ := cols_end hc1; have HC1 := Lib.hid hc1; have SP := Lib.hid hs1; have HB1 := Lib.hid hb1; have I2 := Lib.hid ((H1.out.to fun k hk => hb1.block k hk).mono hb1.size); clear hc1 hs1 hl1 hb1)
  have NC : Hid (∃ nc, cs.length = nc) := Lib.hid ⟨_, rfl⟩
  obtain ⟨nc, hnc⟩ := NC.out
  have HNC := Lib.hid hnc
  rw [hnc] at HC1 ⊢
  clear hnc NC
  refine captureM ?_
  intro y ey
  have yb1 : Below w1.heap.size w1 y := by rw [ey]; exact (by repeat (first | with_reducible exact Below.refl _ _ | with_reducible assumption | with_reducible refine Below.al ?_ _ | with_reducible refine Below.on ?_ _ | with_reducible refine Below.st ?_ (by first | assumption | (simp; done) | (simp; omega)) _ | with_reducible refine Below.drew ?_))
  have d2 : y.cell? ⟨w1.heap.size, 0, none⟩ = some (.slice ca nc cc) := by rw [ey]; simp (maxDischargeDepth := 9) [go_sem, *]
  have d3 : y.cell? ⟨w1.heap.size, 1, none⟩ = some (.int .i64 key) := by rw [ey]; simp (maxDischargeDepth := 9) [go_sem, *]
  have dz : w1.heap.size < y.heap.size := by rw [ey]; simp
  have YB1 := Lib.hid (Below.to HB1.out yb1)
  have HC2 := Lib.hid (HC1.out.mono yb1 yb1.size)
  have I3 := Lib.hid ((I2.out.to fun k hk => yb1.block k hk).mono yb1.size)
  obtain ⟨SB, hSB⟩ : ∃ b, w1.heap.size = b := ⟨_, rfl⟩
  rw [hSB] at d2 d3 dz ⊢
  clear ey yb1 hSB
  have OW : Hid ((y.drew.alloc (.cells #[.int .i64 3] 3)).ownsRow y.heap.size 3 1 (.slice (some ⟨y.heap.size, 0, none⟩) 1 1) 1 [.int .i64 3]) := Lib.hid (World.ownsRow_lit y.drew #[.int .i64 3] 1 (Nat.le_refl _) (by decide) rfl)
  have SR : Hid (SrcRow (y.drew.alloc (.cells #[.int .i64 3] 3)) (.slice za zl.length zc) zl.length 1 (zl.flatMap intC)) := Lib.hid ((ints_row I3.out).on (by exact (by repeat (first | with_reducible exact Below.refl _ _ | with_reducible assumption | with_reducible refine Below.al ?_ _ | with_reducible refine Below.on ?_ _ | with_reducible refine Below.st ?_ (by first | assumption | (simp; done) | (simp; omega)) _ | with_reducible refine Below.drew ?_))))
  go_region_held3 (fun w' => w'.cell? ⟨SB, 0, none⟩ = some (.slice ca nc cc) ∧ w'.cell? ⟨SB, 1, none⟩ = some (.int .i64 key)) (first | exact ⟨by assumption, by assumption⟩ | (refine ⟨?_, ?_⟩ <;> simp (maxDischargeDepth := 9) [go_sem, *]))
    (first
      | (refine step_append_row_wide (by rfl) _ _ 39 (by rfl) y.heap.size 3 i1 _ 1 8 Try.underlying39 hj hy0 hy1 hy2 rfl (by decide) (.slice (some ⟨y.heap.size, 0, none⟩) 1 1) 1 [.int .i64 3] (by rfl) OW.out (.slice za zl.length zc) zl.length (zl.flatMap intC) (by rfl) SR.out (by unfold maxLen; omega) (by omega) (by simp) ?_; intro v7 w7 hown hgrow; have O7 := Lib.hid hown; have G7 : Hid (Below y.heap.size y w7) := Lib.hid (Below.gr (by exact (by repeat (first | with_reducible exact Below.refl _ _ | with_reducible assumption | with_reducible refine Below.al ?_ _ | with_reducible refine Below.on ?_ _ | with_reducible refine Below.st ?_ (by first | assumption | (simp; done) | (simp; omega)) _ | with_reducible refine Below.drew ?_))) OW.out hgrow); obtain ⟨a7, c7, rfl⟩ := own_form hown; have I7 : Hid (IntsAt w7 w7.heap.size (.slice a7 (1 + zl.length) c7) (3 :: zl)) := Lib.hid (ints_cons I3.out.1 (by omega) O7.out); have q70 : w7.cell? ⟨SB, 0, none⟩ = some (.slice ca nc cc) := (G7.out.cell (p := ⟨SB, 0, none⟩) dz).trans d2; have q71 : w7.cell? ⟨SB, 1, none⟩ = some (.int .i64 key) := (G7.out.cell (p := ⟨SB, 1, none⟩) dz).trans d3; clear hown hgrow)
      | (go_at_call 14; refine Calls.mono (lists_any (.slice ca nc cc) cs key _ (3 :: zl) 3 w7 (HC2.out.mono G7.out G7.out.size) I7.out (by decide) (by decide) SP.out) ?_; rintro e z ⟨v3, lvs, Ls, rfl, ho3, he3, hk3, hb3⟩; obtain ⟨ma, mc, rfl⟩ := own_form ho3; have e2 := (hb3.cell (p := ⟨SB, 0, none⟩) (Nat.lt_of_lt_of_le dz G7.out.size)).trans q70; have e3 := (hb3.cell (p := ⟨SB, 1, none⟩) (Nat.lt_of_lt_of_le dz G7.out.size)).trans q71; have ez : SB < z.heap.size := Nat.lt_of_lt_of_le (Nat.lt_of_lt_of_le dz G7.out.size) hb3.size; have HO := Lib.hid ho3; have HE := Lib.hid he3; have HK := Lib.hid hk3; have HB3 := Lib.hid hb3; clear ho3 he3 hk3 hb3))
  -- TAIL
  have ZB := Lib.hid (Below.to (Below.to YB1.out G7.out) HB3.out)
  have LR : Hid (∀ l ∈ Ls, l.length ≤ 9223372036854775807) := Lib.hid (fun l hl => by have := (HK.out.2 l hl).1; omega)
  have LN : Ls.length = 3 := by
    have h1 := HK.out.1
    have h2 : (nextF (3 + 1) (3 :: zl)).1 = 3 := by show pickI 3 4 = 3; decide
    rw [h2] at h1; omega
  have PA := Lib.hid (ls_parts HE.out HO.out (by omega) LR.out)
  have lvl : lvs.length = 3 := by rw [HE.out.1, LN]
  rw [lvl] at PA ⊢
  have LSL := Lib.hid HK.out.2
  obtain ⟨l0, l1, l2, rfl⟩ : ∃ a b c, Ls = [a, b, c] := by
    match Ls, LN with
    | [a, b, c], _ => exact ⟨a, b, c, rfl⟩
  have k0 := LSL.out l0 (by simp)
  have k1 := LSL.out l1 (by simp)
  have k2 := LSL.out l2 (by simp)
  obtain ⟨g, go, rfl, g3, gz, lv0, c0, r0⟩ := parts_in PA.out (i := 0) (by simp)
  obtain ⟨g', go', eg, _, _, lv1, c1, r1⟩ := parts_in PA.out (i := 1) (by simp)
  injection eg with eg; injection eg with eg1 eg2; subst eg1 eg2
  obtain ⟨g', go', eg, _, _, lv2, c2, r2⟩ := parts_in PA.out (i := 2) (by simp)
  injection eg with eg; injection eg with eg1 eg2; subst eg1 eg2
  simp only [List.getElem_cons_zero, List.getElem_cons_succ, Nat.add_zero] at c0 c1 c2 r0 r1 r2
  simp only [List.length_cons, List.length_nil] at g3
  have PA2 : Hid (PartsAt z z.heap.size (.slice (some ⟨g, go, none⟩) 2 mc) [l0, l1]) := Lib.hid ⟨by simp, .inr ⟨g, go, mc, rfl, by simp; omega, gz, fun j hj => by
    rcases j with _ | _ | j
    · exact ⟨lv0, c0, r0⟩
    · exact ⟨lv1, c1, r1⟩
    · simp at hj; omega⟩⟩
  have HCZ := Lib.hid ((HC2.out.mono G7.out G7.out.size).mono HB3.out HB3.out.size)
  obtain ⟨A, hA⟩ : ∃ A, srt (recD (tyK cs key) key) (l0 ++ l1) = A := ⟨_, rfl⟩
  obtain ⟨R, hR⟩ : ∃ R, srt (recD (tyK cs key) key) (l0 ++ l1 ++ l2) = R := ⟨_, rfl⟩
  have all3 : ∀ l ∈ [l0, l1, l2], l.length ≤ 1024 ∧ sortedF cs key l = true := fun l hl => by have := LSL.out l hl; exact ⟨by omega, this.2.2⟩
  have E2 := steps_ok (Ls := [l0, l1]) SP.out (by simp) (fun l hl => (all3 l (List.mem_append_left [l2] hl)).1) (fun l hl => (all3 l (List.mem_append_left [l2] hl)).2)
  have E3 := steps_ok (Ls := [l0, l1, l2]) SP.out (by simp) (fun l hl => (all3 l hl).1) (fun l hl => (all3 l hl).2)
  have f2 : [l0, l1].flatten = l0 ++ l1 := by simp
  have f3 : [l0, l1, l2].flatten = l0 ++ l1 ++ l2 := by simp
  rw [f2, hA] at E2
  rw [f3, hR] at E3
  have LA : A.length ≤ 8 := by rw [← hA, srt_len, List.length_append]; omega
  have M2 := Lib.hid (fun (W : World) (hb : Below z.heap.size z W) => merge_any (.slice ca nc cc) cs key _ [l0, l1] W (HCZ.out.mono hb hb.size) (PA2.out.mono hb hb.size))
  have M3 := Lib.hid (fun (W : World) (hb : Below z.heap.size z W) => merge_any (.slice ca nc cc) cs key _ [l0, l1, l2] W (HCZ.out.mono hb hb.size) (PA.out.mono hb hb.size))
  unfold MrgPost at M2 M3
  rw [E2.1, E2.2] at M2
  rw [E3.1, E3.2] at M3
  have M4 : Hid (∀ (W : World) (b : Nat) (v0 : Value), Below z.heap.size z W → b < W.heap.size → W.cell? ⟨b, 0, none⟩ = some v0 → W.cell? ⟨b, 1, none⟩ = some lv2 → RecsAt W W.heap.size v0 A → Calls Try.prog 10 #[.agg #[.slice ca nc cc, .int .i64 key], .slice (some ⟨b, 0, none⟩) 2 2] W (MrgPost W cs key [A, l2])) := Lib.hid (fun W b v0 hb hbW h0 h1 hr => merge_any (.slice ca nc cc) cs key _ [A, l2] W (HCZ.out.mono hb hb.size) (parts_two hbW h0 h1 hr (r2.mono hb hb.size)))
  have HA := Lib.hid hA
  have HR := Lib.hid hR
  have K2 := Lib.hid k2
  obtain ⟨la, hla⟩ : ∃ n, A.length = n := ⟨_, rfl⟩
  obtain ⟨lr, hlr⟩ : ∃ n, R.length = n := ⟨_, rfl⟩
  have HLA := Lib.hid (And.intro hla LA)
  have HLR := Lib.hid hlr
  have G2 := Lib.hid (And.intro c2 gz)
  obtain ⟨l2a, l2c, rfl⟩ := recs_end r2
  obtain ⟨l2n, hl2⟩ : ∃ n, l2.length = n := ⟨_, rfl⟩
  rw [hl2] at c2 M4
  have c2' := c2
  have mc3 : 3 ≤ mc := g3
  have mc2 : 2 ≤ mc := by omega
  have mc2' : (2 : Int) ≤ (mc : Int) := by omega
  have mc0 : ¬ mc = 0 := by omega
  clear c0 c1 r0 r1 r2 k0 k1 k2 hA hR E2 E3 f2 f3 LN lvl all3 LA hla hlr q70 q71 d2 d3 dz hl2 g3
  go_upto_region 5 with fail
  go_region_held3 (fun w' => w'.cell? ⟨SB, 0, none⟩ = some (.slice ca nc cc) ∧ w'.cell? ⟨SB, 1, none⟩ = some (.int .i64 key)) (first | exact ⟨by assumption, by assumption⟩ | (refine ⟨?_, ?_⟩ <;> simp (maxDischargeDepth := 9) [go_sem, *]))
    (first
      | (go_at_call 10; refine Calls.mono (M2.out _ (by exact (by repeat (first | with_reducible exact Below.refl _ _ | with_reducible assumption | with_reducible refine Below.al ?_ _ | with_reducible refine Below.on ?_ _ | with_reducible refine Below.st ?_ (by first | assumption | (simp; done) | (simp; omega)) _ | with_reducible refine Below.drew ?_)))) ?_; rintro e w5 ⟨v5, rfl, hr5, hb5⟩; obtain ⟨a5, c5, rfl⟩ := recs_end hr5; rw [HLA.out.1] at hr5 ⊢; have R5 := Lib.hid hr5; have B5 : Hid (Below z.heap.size z w5) := Lib.hid (Below.to (Below.refl _ _).drew hb5); have s0 : w5.cell? ⟨SB, 0, none⟩ = some (.slice ca nc cc) := (B5.out.cell (p := ⟨SB, 0, none⟩) ez).trans e2; have s1 : w5.cell? ⟨SB, 1, none⟩ = some (.int .i64 key) := (B5.out.cell (p := ⟨SB, 1, none⟩) ez).trans e3; clear hr5 hb5))
  have ez5 : SB < w5.heap.size := Nat.lt_of_lt_of_le ez B5.out.size
  clear e2 e3
  go_upto_region 7 with (go_at_call 10; refine Calls.mono (M3.out _ B5.out) ?_; rintro e w6 ⟨v6, rfl, hr6, hb6⟩; obtain ⟨a6, c6, rfl⟩ := recs_end hr6; rw [HLR.out] at hr6 ⊢; have R6 := Lib.hid hr6; have B6 := Lib.hid hb6; have t0 := (hb6.cell (p := ⟨SB, 0, none⟩) ez5).trans s0; have t1 := (hb6.cell (p := ⟨SB, 1, none⟩) ez5).trans s1; clear hr6 hb6)
  have ez6 : SB < w6.heap.size := Nat.lt_of_lt_of_le ez5 B6.out.size
  have BZ6 := Lib.hid (Below.to B5.out B6.out)
  have gz6 : g < w6.heap.size := Nat.lt_of_lt_of_le gz BZ6.out.size
  have R56 := Lib.hid (R5.out.mono B6.out B6.out.size)
  have t2 : w6.cell? ⟨g, go + 2, none⟩ = some (.slice l2a l2n l2c) := (BZ6.out.cell (p := ⟨g, go + 2, none⟩) gz).trans c2'
  clear s0 s1
  have SO : Hid (∀ W : World, Below w6.heap.size w6 W → Calls Try.prog 25 #[.agg #[.slice ca nc cc, .int .i64 key], .slice a5 la c5] W fun e w' => e = .returned (.bool (sortedF cs key A)) ∧ Below W.heap.size W w') := Lib.hid (fun W hb => refSorted_any (.slice ca nc cc) cs key _ A W (HCZ.out.mono (Below.to BZ6.out hb) (Below.to BZ6.out hb).size) (R56.out.mono hb hb.size))
  have B9 : Hid (Below w6.heap.size w6 (w6.drew.alloc (.cells #[.slice a5 la c5, .slice l2a l2n l2c] 22))) := Lib.hid (by exact (by repeat (first | with_reducible exact Below.refl _ _ | with_reducible assumption | with_reducible refine Below.al ?_ _ | with_reducible refine Below.on ?_ _ | with_reducible refine Below.st ?_ (by first | assumption | (simp; done) | (simp; omega)) _ | with_reducible refine Below.drew ?_)))
  have M9 := Lib.hid (M4.out (w6.drew.alloc (.cells #[.slice a5 la c5, .slice l2a l2n l2c] 22)) w6.heap.size (.slice a5 la c5) (Below.to BZ6.out B9.out) (by simp) (by simp [go_sem]) (by simp [go_sem]) (R56.out.mono B9.out B9.out.size))
  unfold MrgPost at M9
  have HLE := Lib.hid (⟨by have := HLA.out.1; have := HLA.out.2; omega, K2.out.1⟩ : A.length ≤ 1024 ∧ l2.length ≤ 4)
  obtain ⟨B, hB⟩ : ∃ B, sortedF cs key A = B := ⟨_, rfl⟩
  rw [hB] at SO
  cases B with
  | true =>
    have E4 : mergeE cs key [A, l2] = 0 ∧ mergeR cs key [A, l2] = R := by
      obtain ⟨e1, e2⟩ := steps_ok (Ls := [A, l2]) SP.out (by simp) (fun l hl => by rcases List.mem_cons.1 hl with rfl | hl; exact HLE.out.1; rw [List.mem_singleton.1 hl]; have := HLE.out.2; omega) (fun l hl => by rcases List.mem_cons.1 hl with rfl | hl; exact hB; rw [List.mem_singleton.1 hl]; exact K2.out.2.2)
      refine ⟨e1, ?_⟩
      rw [e2]
      have f : [A, l2].flatten = A ++ l2 := by simp
      have sp := sorted_pair hB
      rw [f, ← HR.out, ← HA.out]
      rw [← HA.out] at sp
      exact srt_twice (recD_pre _ _) sp
    rw [E4.1, E4.2] at M9
    have ET := Lib.hid ((eqRs_iff R R).2 rfl)
    clear E4 hB
    go_upto_region 9 with fail
    go_region_held3 (fun w' => w'.cell? ⟨SB, 0, none⟩ = some (.slice ca nc cc) ∧ w'.cell? ⟨SB, 1, none⟩ = some (.int .i64 key) ∧ w'.cell? ⟨g, go + 2, none⟩ = some (.slice l2a l2n l2c)) (first | exact ⟨by assumption, by assumption, by assumption⟩ | (refine ⟨?_, ?_, ?_⟩ <;> simp (maxDischargeDepth := 9) [go_sem, *]))
      (first
        | (go_at_call 10; refine Calls.mono M9.out ?_; rintro e w9 ⟨v9, rfl, hr9, hb9⟩; obtain ⟨a9, c9, rfl⟩ := recs_end hr9; rw [HLR.out] at hr9 ⊢; have R9 := Lib.hid hr9; have BB9 : Hid (Below w6.heap.size w6 w9) := Lib.hid (Below.to B9.out hb9); have s0 : w9.cell? ⟨SB, 0, none⟩ = some (.slice ca nc cc) := (BB9.out.cell (p := ⟨SB, 0, none⟩) ez6).trans t0; have s1 : w9.cell? ⟨SB, 1, none⟩ = some (.int .i64 key) := (BB9.out.cell (p := ⟨SB, 1, none⟩) ez6).trans t1; have s2 : w9.cell? ⟨g, go + 2, none⟩ = some (.slice l2a l2n l2c) := (BB9.out.cell (p := ⟨g, go + 2, none⟩) gz6).trans t2; clear hr9 hb9))
    have RA := Lib.hid (R6.out.mono BB9.out BB9.out.size)
    have YB := Lib.hid (Below.to (Below.to ZB.out BZ6.out) BB9.out)
    have ez9 : SB < w9.heap.size := Nat.lt_of_lt_of_le ez6 BB9.out.size
    clear t0 t1 t2
    have yb := YB.out
    go_wp2_with (first
      | (go_at_call 25; refine Calls.mono (SO.out _ BB9.out) ?_; rintro e w10 ⟨rfl, hb10⟩; obtain ⟨x10, rfl⟩ := Ext.of hb10)
      | (go_at_call 17; refine Calls.mono (awake29 _) ?_; rintro e w11 ⟨rfl, hb11⟩; obtain ⟨x11, rfl⟩ := Ext.of hb11)
      | (go_at_call 26; refine Calls.mono (same_recs _ _ R R _ (R9.out.mono (Below.to x10.below x11.below) (Below.to x10.below x11.below).size) (RA.out.mono (Below.to x10.below x11.below) (Below.to x10.below x11.below).size)) ?_; rintro e w12 ⟨rfl, hb12⟩; rw [ET.out]; obtain ⟨x12, rfl⟩ := Ext.of hb12))
    exact bodyPost_ret (v := .bool true) (by simp [results, Try.results8, go_sem, *]) rfl (⟨rfl, by repeat (first | with_reducible exact Below.refl _ _ | with_reducible assumption | with_reducible refine Below.al ?_ _ | with_reducible refine Below.on ?_ _ | with_reducible refine Below.st ?_ (by first | assumption | (simp; done) | (simp; omega)) _ | with_reducible refine Below.drew ?_)⟩)
  | false =>
    have E4 := steps_bad (l2 := l2) SP.out HLE.out.1 (by have := HLE.out.2; omega) hB
    rw [E4.1, E4.2] at M9
    clear E4 hB
    go_upto_region 9 with fail
    go_region_held3 (fun w' => w'.cell? ⟨SB, 0, none⟩ = some (.slice ca nc cc) ∧ w'.cell? ⟨SB, 1, none⟩ = some (.int .i64 key) ∧ w'.cell? ⟨g, go + 2, none⟩ = some (.slice l2a l2n l2c)) (first | exact ⟨by assumption, by assumption, by assumption⟩ | (refine ⟨?_, ?_, ?_⟩ <;> simp (maxDischargeDepth := 9) [go_sem, *]))
      (first
        | (go_at_call 10; refine Calls.mono M9.out ?_; rintro e w9 ⟨v9, rfl, hr9, hb9⟩; obtain ⟨a9, c9, rfl⟩ := recs_end hr9; have BB9 : Hid (Below w6.heap.size w6 w9) := Lib.hid (Below.to B9.out hb9); have s0 : w9.cell? ⟨SB, 0, none⟩ = some (.slice ca nc cc) := (BB9.out.cell (p := ⟨SB, 0, none⟩) ez6).trans t0; have s1 : w9.cell? ⟨SB, 1, none⟩ = some (.int .i64 key) := (BB9.out.cell (p := ⟨SB, 1, none⟩) ez6).trans t1; have s2 : w9.cell? ⟨g, go + 2, none⟩ = some (.slice l2a l2n l2c) := (BB9.out.cell (p := ⟨g, go + 2, none⟩) gz6).trans t2; clear hr9 hb9))
    have YB := Lib.hid (Below.to (Below.to ZB.out BZ6.out) BB9.out)
    have ez9 : SB < w9.heap.size := Nat.lt_of_lt_of_le ez6 BB9.out.size
    clear t0 t1 t2
    have yb := YB.out
    go_wp2_with (first
      | (go_at_call 25; refine Calls.mono (SO.out _ BB9.out) ?_; rintro e w10 ⟨rfl, hb10⟩; obtain ⟨x10, rfl⟩ := Ext.of hb10)
      | (go_at_call 17; refine Calls.mono (awake29 _) ?_; rintro e w11 ⟨rfl, hb11⟩; obtain ⟨x11, rfl⟩ := Ext.of hb11))
    exact bodyPost_ret (v := .bool true) (by simp [results, Try.results8, go_sem, *]) rfl (⟨rfl, by repeat (first | with_reducible exact Below.refl _ _ | with_reducible assumption | with_reducible refine Below.al ?_ _ | with_reducible refine Below.on ?_ _ | with_reducible refine Below.st ?_ (by first | assumption | (simp; done) | (simp; omega)) _ | with_reducible refine Below.drew ?_)⟩)
end Go.Proofs.Ytgooffpmiilicaa
