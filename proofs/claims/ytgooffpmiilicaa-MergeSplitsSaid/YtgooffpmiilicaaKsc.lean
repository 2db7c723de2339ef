/-
  THE MAKERS: keep.Schema: a valid schema. Conditions: the choices lie in memory as 'IntsAt' says.
-/
import Derived.Test.YtgooffpmiilicaaKsl
import Derived.Maps.AppendAt
import Derived.Deep.RegionHeld3
import Derived.Deep.CutRange
import Derived.IntWalk
set_option linter.unusedVariables false
set_option linter.unusedSimpArgs false
namespace Go.Proofs.Ytgooffpmiilicaa
open Go.RowKit
theorem infoCol : (Try.prog.info? 76).map (fun i => (i.zero, i.size, i.bytes)) = some (some (.agg #[.string ⟨#[]⟩, .int .i64 0, .int .i64 0, .bool false]), 4, 40) := by kernel_rfl
/-- What keep.Schema has in memory at the head of a round. -/
structure ScMem (w0 : World) (sb ob : Nat) (wr : World) (v : Value) (cs : List Col) (r : List Int) : Prop where
  mv : Mv (fun k => k = sb ∨ k = ob) w0 wr
  so : sb < ob
  ol : ob < w0.heap.size
  src : SrcAt wr sb r
  c0 : wr.cell? ⟨ob, 0, none⟩ = some v
  c1 : wr.cell? ⟨ob, 1, none⟩ = some (.int .i64 0)
  f0 : wr.frozen? ⟨ob, 0, none⟩ = false
  f1 : wr.frozen? ⟨ob, 1, none⟩ = false
  own : wr.ownsRow w0.heap.size 76 4 v cs.length (cs.flatMap colC)
/-- The column of a round, in a block of its own. -/
structure ScCol (sb CB : Nat) (nm : ByteArray) (ty sc : Int) (nul : Bool) (r : List Int) (wr wx : World) : Prop where
  mv : Mv (fun k => k = sb) wr wx
  lo : wr.heap.size ≤ CB
  lt : CB < wx.heap.size
  src : SrcAt wx sb r
  c0 : wx.cell? ⟨CB, 0, none⟩ = some (.string nm)
  c1 : wx.cell? ⟨CB, 1, none⟩ = some (.int .i64 ty)
  c2 : wx.cell? ⟨CB, 2, none⟩ = some (.int .i64 sc)
  c3 : wx.cell? ⟨CB, 3, none⟩ = some (.bool nul)
  f2 : wx.frozen? ⟨CB, 2, none⟩ = false
theorem ScMem.on {w0 : World} {sb ob : Nat} {wr wx : World} {v : Value} {cs : List Col} {r r' : List Int} (h : ScMem w0 sb ob wr v cs r) (hm' : Mv (fun k => k = sb) wr wx) (hs : SrcAt wx sb r') : ScMem w0 sb ob wx v cs r' :=
  have hm : Mv (fun k => k = sb ∨ k = ob) wr wx := hm'.mono fun _ _ q => .inl q
  have ho : wx.heap[ob]? = wr.heap[ob]? := hm'.block ob (Nat.lt_of_lt_of_le h.ol h.mv.size) (by have := h.so; omega)
  ⟨h.mv.trans hm, h.so, h.ol, hs, (World.cell?_of_block (w := wr) ho).trans h.c0, (World.cell?_of_block (w := wr) ho).trans h.c1, (World.frozen?_of_block (w := wr) ho).trans h.f0, (World.frozen?_of_block (w := wr) ho).trans h.f1,
    own_mv h.own hm fun k hk => by have := h.so; have := h.ol; omega⟩
theorem ScMem.al {w0 : World} {sb ob : Nat} {wr : World} {v : Value} {cs : List Col} {r : List Int} (h : ScMem w0 sb ob wr v cs r) (o : Obj) : ScMem w0 sb ob (wr.alloc o) v cs r :=
  h.on ((Mv.refl _ _).al o) (h.src.al o)
theorem ScMem.far {w0 : World} {sb ob : Nat} {wr w1 : World} {v : Value} {cs : List Col} {r : List Int} (h : ScMem w0 sb ob wr v cs r) (hg : wr.grownBy w1 v.ownBlock) : w1.cell? ⟨ob, 0, none⟩ = some v ∧ w1.frozen? ⟨ob, 0, none⟩ = false := by
  have hrow : ∀ k, v.ownBlock = some k → w0.heap.size ≤ k := fun k hk => (h.own.lt k hk).1
  have ol := h.ol
  have hb := hg.block ob (Nat.lt_of_lt_of_le ol h.mv.size) (fun e => by have := hrow ob e.symm; omega)
  exact ⟨(World.cell?_of_block (w := wr) hb).trans h.c0, (World.frozen?_of_block (w := wr) hb).trans h.f0⟩
theorem ScMem.step {w0 : World} {sb ob : Nat} {wr w1 : World} {v v1 : Value} {cs : List Col} {c : Col} {r : List Int} (h : ScMem w0 sb ob wr v cs r) (hg : wr.grownBy w1 v.ownBlock) (ho : w1.ownsRow w0.heap.size 76 4 v1 (cs.length + 1) (cs.flatMap colC ++ colC c)) :
    ScMem w0 sb ob (w1.setCell ⟨ob, 0, none⟩ v1) v1 (cs ++ [c]) r := by
  have hrow : ∀ k, v.ownBlock = some k → w0.heap.size ≤ k := fun k hk => (h.own.lt k hk).1
  have so := h.so
  have ol := h.ol
  have obl : ob < wr.heap.size := Nat.lt_of_lt_of_le ol h.mv.size
  have hne : some ob ≠ v.ownBlock := fun e => by have := hrow ob e.symm; omega
  have hb := hg.block ob obl hne
  have hs1 : SrcAt w1 sb r := h.src.grw hg fun k hk => by have := hrow k hk; omega
  refine ⟨(h.mv.gr hg hrow).st (.inl (.inr rfl)) _, so, ol, hs1.stn so _, ?_, ?_, ?_, ?_, ?_⟩
  · have := (World.cell?_of_block (w := wr) hb).trans h.c0
    have hf := (World.frozen?_of_block (w := wr) hb).trans h.f0
    simp [go_sem, *]
  · have := (World.cell?_of_block (w := wr) hb).trans h.c1
    simp [go_sem, *]
  · rw [World.frozen?_setCell]; exact (World.frozen?_of_block (w := wr) hb).trans h.f0
  · rw [World.frozen?_setCell]; exact (World.frozen?_of_block (w := wr) hb).trans h.f1
  · rw [List.length_append, List.flatMap_append, List.flatMap_cons, List.flatMap_nil, List.append_nil]
    exact own_mv ho ((Mv.refl (fun k => k = ob) w1).st (.inl rfl) _) fun k hk => by omega
theorem ScMem.st2 {w0 : World} {sb ob CB : Nat} {wr : World} {v : Value} {cs : List Col} {r : List Int} (h : ScMem w0 sb ob wr v cs r) (hr : ∀ k, v.ownBlock = some k → k < CB) (h0 : w0.heap.size ≤ CB) (i : Nat) (u : Value) : ScMem w0 sb ob (wr.setCell ⟨CB, i, none⟩ u) v cs r := by
  have so := h.so
  have ol := h.ol
  have ho : (wr.setCell ⟨CB, i, none⟩ u).heap[ob]? = wr.heap[ob]? := Below.heap_setCell _ _ _ _ (by show ob ≠ CB; omega)
  exact ⟨h.mv.st (.inr h0) _, so, ol, h.src.stn (by show sb < CB; omega) _, (World.cell?_of_block (w := wr) ho).trans h.c0, (World.cell?_of_block (w := wr) ho).trans h.c1, (World.frozen?_of_block (w := wr) ho).trans h.f0, (World.frozen?_of_block (w := wr) ho).trans h.f1,
    own_st h.own (fun k hk => by have := hr k hk; show k ≠ CB; omega) _⟩
set_option maxRecDepth 8000 in
set_option maxHeartbeats 2000000 in
theorem keepSchema_any (lv : Value) (zs : List Int) (w : World) (h : IntsAt w w.heap.size lv zs) :
    Calls Try.prog 13 #[lv] w fun e w' => ∃ v cs key, e = .returned (.agg #[v, .int .i64 key]) ∧ ColsAt w' w'.heap.size v cs ∧ schemaF cs key = 0 ∧ cs.length ≤ 4 ∧ Below w.heap.size w w' := by
  have h1 : IntsAt (w.alloc (.cells #[.slice none 0 0, .int .i64 0] 28)) (w.alloc (.cells #[.slice none 0 0, .int .i64 0] 28)).heap.size lv zs := (h.to (fun k hk => Below.heap_alloc _ _ _ hk)).mono (by simp)
  clear h
  obtain ⟨i0, hi, hz0, hz1, hz2⟩ := info_parts infoCol
  go_enter Try.func13, Try.ntmps13
  go_upto_region 2 with (go_at_call 36; refine (from_any lv zs _ h1).mono ?_; rintro e w1 ⟨rfl, hb1, hs1⟩; obtain ⟨x1, rfl⟩ := Ext.of hb1; have z0 : w.heap.size < x1.it.heap.size := x1.lt (by simp))
  simp only [World.size_alloc] at hs1
  go_upto_region 3 with fail
  refine captureM ?_
  intro y ey
  have ys : SrcAt y (w.heap.size + 1) zs := by rw [ey]; exact hs1.al _
  have yo : x1.it.heap.size < y.heap.size := by rw [ey]; simp
  have so : w.heap.size + 1 < x1.it.heap.size := hs1.lt
  have yc0 : y.cell? ⟨x1.it.heap.size, 0, none⟩ = some (.slice none 0 0) := by rw [ey]; simp [go_sem]
  have yc1 : y.cell? ⟨x1.it.heap.size, 1, none⟩ = some (.int .i64 0) := by rw [ey]; simp [go_sem]
  have yf0 : y.frozen? ⟨x1.it.heap.size, 0, none⟩ = false := by rw [ey]; simp [go_sem]
  have yf1 : y.frozen? ⟨x1.it.heap.size, 1, none⟩ = false := by rw [ey]; simp [go_sem]
  have yr0 : y.cell? ⟨w.heap.size, 0, none⟩ = some (.slice none 0 0) := by rw [ey]; simp (maxDischargeDepth := 9) [go_sem, *]
  have yr1 : y.cell? ⟨w.heap.size, 1, none⟩ = some (.int .i64 0) := by rw [ey]; simp (maxDischargeDepth := 9) [go_sem, *]
  have yg0 : y.frozen? ⟨w.heap.size, 0, none⟩ = false := by rw [ey]; simp (maxDischargeDepth := 9) [go_sem, *]
  have yg1 : y.frozen? ⟨w.heap.size, 1, none⟩ = false := by rw [ey]; simp (maxDischargeDepth := 9) [go_sem, *]
  have yb : Below w.heap.size w y := by rw [ey]; exact (by repeat (first | with_reducible exact Below.refl _ _ | with_reducible assumption | with_reducible refine Below.al ?_ _ | with_reducible refine Below.on ?_ _ | with_reducible refine Below.st ?_ (by first | assumption | (simp; done) | (simp; omega)) _ | with_reducible refine Below.drew ?_))
  clear ey hs1 h1 hb1 z0
  generalize x1.it.heap.size = ob at *
  clear x1
  go_wp2_with (go_at_call 37; refine (next_any _ _ 4 (by decide) (by decide) _ ys).mono ?_; rintro e w2 ⟨rfl, hm2, hs2⟩; have nb := nextF_bd zs (n := 4) (by decide))
  have M0 : ScMem y (w.heap.size + 1) ob w2 (.slice none 0 0) [] (nextF 4 zs).2 :=
    ⟨Mv.of_moved hm2 (.inl rfl), so, yo, hs2, (World.cell?_of_block (w := y) (hm2.block ob yo (by omega))).trans yc0, (World.cell?_of_block (w := y) (hm2.block ob yo (by omega))).trans yc1, (World.frozen?_of_block (w := y) (hm2.block ob yo (by omega))).trans yf0, (World.frozen?_of_block (w := y) (hm2.block ob yo (by omega))).trans yf1, World.ownsRow_nil _ _ _ _⟩
  obtain ⟨N0, hN0⟩ : ∃ N0 : Nat, (1 + (nextF 4 zs).1) = (N0 : Int) := ⟨(1 + (nextF 4 zs).1).toNat, by omega⟩
  have hN1 : 1 ≤ N0 := by omega
  have hN4 : N0 ≤ 4 := by omega
  rw [hN0]
  generalize (nextF 4 zs).2 = r0 at *
  clear hN0 nb hm2 hs2 yc0 yc1 yf0 yf1 ys
  have M0' := Lib.hid M0
  clear M0
  go_loopg [5] N0 (fun g s wr => ∃ cs v r, s = .int .i64 (g : Int) ∧ cs.length + g = N0 ∧ ScOk g cs ∧ ScMem y (w.heap.size + 1) ob wr v cs r)
  case atStart => exact ⟨[], _, _, rfl, by simp, ScOk.nil _, M0'.out⟩
  case round =>
    obtain ⟨cs, v, r, rfl, hlen, hok, M⟩ := hrel
    clear M0'
    by_cases hg0 : gk = 0
    · subst hg0
      obtain ⟨va, vc, rfl⟩ := own_form M.own
      have b0 := M.src
      have b1 := M.c0
      have b2 := M.c1
      have b3 := M.f1
      have obl : ob < wr.heap.size := Nat.lt_of_lt_of_le M.ol M.mv.size
      have obn : ob ≠ w.heap.size + 1 := by omega
      have hwl : w.heap.size < wr.heap.size := by have := M.mv.size; omega
      have hwn : w.heap.size ≠ w.heap.size + 1 := by omega
      have hwo : ob ≠ w.heap.size := by omega
      have b4 := (M.mv.cell 0 (b := w.heap.size) (by omega) (by show ¬ (_ ∨ _); omega)).trans yr0
      have b5 := (M.mv.cell 1 (b := w.heap.size) (by omega) (by show ¬ (_ ∨ _); omega)).trans yr1
      have b6 := (M.mv.frozen 0 (b := w.heap.size) (by omega) (by show ¬ (_ ∨ _); omega)).trans yg0
      have b7 := (M.mv.frozen 1 (b := w.heap.size) (by omega) (by show ¬ (_ ∨ _); omega)).trans yg1
      obtain rfl : N0 = cs.length := by omega
      clear hlen
      have ML := Lib.hid M
      clear M yr0 yr1 yg0 yg1
      have hkb := nextF_bd r (n := (cs.length : Int)) (by omega)
      go_wp2_with (go_at_call 37; refine Calls.mono (next_any _ r (cs.length : Int) (by omega) (by omega) _ b0) ?_; rintro e w3 ⟨rfl, hm3, hs3⟩; obtain ⟨x3, rfl⟩ := ExtM.of hm3; have cl3 := x3.lt obl; have cl4 := x3.lt hwl)
      refine bodyPost_ret (v := .agg #[.slice va cs.length vc, .int .i64 (nextF (cs.length : Int) r).1]) ?_ rfl ⟨_, cs, _, rfl, ?_, ?_, by omega, ?_⟩
      · simp (maxDischargeDepth := 9) [results, Try.results13, go_sem, *]
      · refine own_cols (by omega) (own_mv ML.out.own (S := fun k => k = w.heap.size + 1 ∨ k = ob ∨ k = w.heap.size) ?_ (fun k hk => by omega))
        have hmm : Mv (fun k => k = w.heap.size + 1 ∨ k = ob ∨ k = w.heap.size) wr x3.it := Mv.of_moved hm3 (.inl rfl)
        repeat (first | with_reducible assumption | with_reducible refine Mv.st ?_ (by first | exact .inl (.inr (.inl rfl)) | exact .inl (.inr (.inr rfl))) _)
      · exact hok.schema (by omega) (by omega) hkb.1 hkb.2
      · have e1 : Below w.heap.size w wr := Mv.below ML.out.mv yb (fun k hk => by omega)
        exact Below.st (Below.st (Below.st (Moved.below e1 hm3 (by omega)) (by show w.heap.size ≤ ob; omega) _) (by show w.heap.size ≤ w.heap.size; omega) _) (by show w.heap.size ≤ w.heap.size; omega) _
    · have m4 : gk ≤ 4 := by omega
      have hlt : (0 : Int) < (gk : Int) := by omega
      have hlt1 : (1 : Int) ≤ (gk : Int) := by omega
      have hlt4 : (gk : Int) ≤ 4 := by omega
      have hsl : ∀ wx : World, (Instr.slice 9 (.string ⟨#[97, 98, 99, 100]⟩) (some (.int .i64 ((gk : Int) - 1))) (some (.int .i64 (gk : Int))) none).run Try.prog wx = .ok (.string (ltr gk)) wx := fun wx => by
        have := run_slice_string (P := Try.prog) wx 9 ⟨#[97, 98, 99, 100]⟩ .i64 .i64 ((gk : Int) - 1) (gk : Int) Try.underlying9 (by omega) (by omega) (by show _ ≤ (4 : Int); omega)
        rw [this]
        have e1 : ((gk : Int) - 1).toNat = gk - 1 := by omega
        have e2 : ((gk : Int)).toNat = gk := by omega
        rw [e1, e2]
        rfl
      have n5 := nextF_bd r (n := 5) (by decide)
      go_upto_region 6 with fail
      go_cut [6] from 12 to 38 (fun s wx => ∃ CB ty nul r', s = .pointer (some ⟨CB, 0, none⟩) ∧ 1 ≤ ty ∧ ty ≤ 5 ∧ ScCol (w.heap.size + 1) CB (ltr gk) ty 0 nul r' wr wx)
      case first =>
        have hw1 : IntKind.i64.wrap ((gk : Int) - 1) = (gk : Int) - 1 := IntWalk.i64_in _ (by omega)
        have hsrc := M.src
        have hl0 := hsrc.lt
        have hne0 : wr.heap.size ≠ w.heap.size + 1 := by omega
        have hw2 : IntKind.i64.wrap (1 + (nextF 5 r).1) = 1 + (nextF 5 r).1 := IntWalk.i64_in _ (by omega)
        go_region_held3 (fun _ => True) (trivial) (first | (go_at_call 37; refine Calls.mono (next_any _ ?_ _ (by decide) (by decide) _ ?_) ?_; rotate_left; (focus (repeat (first | with_reducible assumption | with_reducible refine SrcAt.al ?_ _ | with_reducible refine SrcAt.drew ?_ | with_reducible refine SrcAt.stn ?_ (by first | (simp; done) | (simp; omega)) _))); rintro e w3 ⟨rfl, hm3, hs3⟩; have hmv3 : Mv (fun k => k = w.heap.size + 1) wr w3 := Mv.mv (by repeat (first | with_reducible exact Mv.refl _ _ | with_reducible assumption | with_reducible refine Mv.al ?_ _ | with_reducible refine Mv.drew ?_ | with_reducible refine Mv.st ?_ (.inr (by first | (simp; done) | (simp; omega))) _)) hm3 rfl; obtain ⟨x3, rfl⟩ := ExtM.of hm3; have hl3 := hs3.lt; have hne3 : x3.it.heap.size ≠ w.heap.size + 1 := (by omega); have hz3 := x3.moved.size; (try simp only [World.size_alloc, World.size_drew] at hz3); (try have hzt3 : wr.heap.size < x3.it.heap.size := (by omega))))
        all_goals
          go_wp2
          go_meet
          refine ⟨_, 1 + (nextF 5 r).1, ((nextF 2 (nextF 5 r).2).1 == 0), (nextF 2 (nextF 5 r).2).2, rfl, by omega, by omega, ⟨by repeat (first | with_reducible exact Mv.refl _ _ | with_reducible assumption | with_reducible refine Mv.al ?_ _ | with_reducible refine Mv.drew ?_ | with_reducible refine Mv.st ?_ (.inr (by first | (simp; done) | (simp; omega))) _), ?_, ?_, by repeat (first | with_reducible assumption | with_reducible refine SrcAt.al ?_ _ | with_reducible refine SrcAt.drew ?_ | with_reducible refine SrcAt.stn ?_ (by first | (simp; done) | (simp; omega)) _), ?_, ?_, ?_, ?_, ?_⟩⟩
          all_goals first | (clear hsl; omega) | (clear hsl; simp only [World.size_alloc, World.size_setCell]; omega) | (simp (maxDischargeDepth := 9) [go_sem, *]; done)
      case rest =>
        obtain ⟨CB, ty, nul, r', rfl, t1, t5, C⟩ := hcut
        have d0 := C.c0
        have d1 := C.c1
        have d2 := C.c2
        have d3 := C.c3
        have df := C.f2
        have clt := C.lt
        have hl0 := M.src.lt
        have cne : CB ≠ w.heap.size + 1 := by have := C.lo; omega
        have MC := M.on C.mv C.src
        have len4 : cs.length + gk ≤ 4 := by omega
        by_cases td : ty = 5
        · subst td
          go_upto_region 9 with (go_at_call 37; refine Calls.mono (next_4 _ r' _ C.src) ?_; rintro e w3 ⟨rfl, hm3, hs3⟩; have MD := MC.on (Mv.of_moved hm3 rfl) hs3; obtain ⟨x3, rfl⟩ := ExtM.of hm3; have cl3 := x3.lt clt)
          refine captureM ?_
          intro z ez
          have MZ : ScMem y (w.heap.size + 1) ob z v cs (nextF 4 r').2 := by rw [ez]; exact MD.st2 (fun k hk => by have := (M.own.lt k hk).2; have := C.lo; omega) (by have := C.lo; have := M.mv.size; omega) _ _
          have g0 : z.cell? ⟨CB, 0, none⟩ = some (.string (ltr gk)) := by rw [ez]; simp (maxDischargeDepth := 9) [go_sem, *]
          have g1 : z.cell? ⟨CB, 1, none⟩ = some (.int .i64 5) := by rw [ez]; simp (maxDischargeDepth := 9) [go_sem, *]
          have g2 : z.cell? ⟨CB, 2, none⟩ = some (.int .i64 (nextF 4 r').1) := by rw [ez]; simp (maxDischargeDepth := 9) [go_sem, *]
          have g3 : z.cell? ⟨CB, 3, none⟩ = some (.bool nul) := by rw [ez]; simp (maxDischargeDepth := 9) [go_sem, *]
          clear ez d0 d1 d2 d3 M C MC
          have q0 := MZ.c0
          have ow := Lib.hid MZ.own
          have zl := MZ.mv.size
          have ML := Lib.hid MZ
          clear MZ
          go_wp2_with (at_builtin; go_must (refine wpList_append_lies _ rfl _ _ 26 rfl y.heap.size 76 i0 _ 4 40 Try.underlying26 hi hz0 hz1 hz2 rfl (by decide) v cs.length (cs.flatMap colC) rfl (ow.out.alloc _) ⟨z.heap.size, 0, none⟩ 1 1 (colC ⟨ltr gk, 5, (nextF 4 r').1, nul⟩) rfl rfl (World.news_of_block (heap_alloc_new z _)) (by simp [colC, Value.oneCell']) (by omega) (by unfold maxLen; omega) (by omega) (by simp; omega) (z.heap.size + 1) (by simp) ?_); intro gb cap w1 hown hgrow hat hlt; obtain ⟨k0, k1⟩ := (ML.out.al _).far hgrow; have OW := Lib.hid (And.intro hown hgrow); clear hown hgrow hat hlt)
          have n4 := nextF_bd r' (n := 4) (by decide)
          go_roundg (gk - 1)
          case measure => omega
          case rel =>
            refine ⟨cs ++ [⟨ltr gk, 5, (nextF 4 r').1, nul⟩], _, _, by go_num, by rw [List.length_append]; show cs.length + 1 + (gk - 1) = N0; omega, ?_, (ML.out.al _).step OW.out.2 OW.out.1⟩
            have hok' : ScOk (gk - 1 + 1) cs := by rw [show gk - 1 + 1 = gk by omega]; exact hok
            have := hok'.snoc (nul := nul) (ty := 5) (sc := (nextF 4 r').1) (by omega) (by omega) (by omega) (by omega) (by omega) (by omega)
            rw [show gk - 1 + 1 = gk by omega] at this
            exact this
        · have td' : (ty == 5) = false := by simpa using td
          go_upto_region 9 with fail
          refine captureM ?_
          intro z ez
          have MZ : ScMem y (w.heap.size + 1) ob z v cs r' := by rw [ez]; exact MC
          have g0 : z.cell? ⟨CB, 0, none⟩ = some (.string (ltr gk)) := by rw [ez]; simp (maxDischargeDepth := 9) [go_sem, *]
          have g1 : z.cell? ⟨CB, 1, none⟩ = some (.int .i64 ty) := by rw [ez]; simp (maxDischargeDepth := 9) [go_sem, *]
          have g2 : z.cell? ⟨CB, 2, none⟩ = some (.int .i64 0) := by rw [ez]; simp (maxDischargeDepth := 9) [go_sem, *]
          have g3 : z.cell? ⟨CB, 3, none⟩ = some (.bool nul) := by rw [ez]; simp (maxDischargeDepth := 9) [go_sem, *]
          clear ez d0 d1 d2 d3 M C MC
          have q0 := MZ.c0
          have ow := Lib.hid MZ.own
          have zl := MZ.mv.size
          have ML := Lib.hid MZ
          clear MZ
          go_wp2_with (at_builtin; go_must (refine wpList_append_lies _ rfl _ _ 26 rfl y.heap.size 76 i0 _ 4 40 Try.underlying26 hi hz0 hz1 hz2 rfl (by decide) v cs.length (cs.flatMap colC) rfl (ow.out.alloc _) ⟨z.heap.size, 0, none⟩ 1 1 (colC ⟨ltr gk, ty, 0, nul⟩) rfl rfl (World.news_of_block (heap_alloc_new z _)) (by simp [colC, Value.oneCell']) (by omega) (by unfold maxLen; omega) (by omega) (by simp; omega) (z.heap.size + 1) (by simp) ?_); intro gb cap w1 hown hgrow hat hlt; obtain ⟨k0, k1⟩ := (ML.out.al _).far hgrow; have OW := Lib.hid (And.intro hown hgrow); clear hown hgrow hat hlt)
          go_roundg (gk - 1)
          case measure => omega
          case rel =>
            refine ⟨cs ++ [⟨ltr gk, ty, 0, nul⟩], _, _, by go_num, by rw [List.length_append]; show cs.length + 1 + (gk - 1) = N0; omega, ?_, (ML.out.al _).step OW.out.2 OW.out.1⟩
            have hok' : ScOk (gk - 1 + 1) cs := by rw [show gk - 1 + 1 = gk by omega]; exact hok
            have := hok'.snoc (nul := nul) (ty := ty) (sc := 0) (by omega) (by omega) (by omega) (by omega) (by omega) (by omega)
            rw [show gk - 1 + 1 = gk by omega] at this
            exact this
end Go.Proofs.Ytgooffpmiilicaa
