/-
  INTERVAL.OF: the walk, of whatever predicate. Conditions: the schema and the predicate lie in memory as 'ColsAt', 'NodsAt' say.
-/
import Derived.Test.YtjojnakgadfgmaaOf0
set_option linter.unusedVariables false
set_option linter.unusedSimpArgs false
namespace Go.Proofs.Ytjojnakgadfgmaa
open Go.RowKit
def leafG (ty : Int) (d : Nod) : Bnd × Bnd := if d.op = 7 then inF ty d.ls else leafF d.op d.v
def stepG (ty col : Int) (acc : List (Bnd × Bnd)) (d : Nod) : Bnd × Bnd :=
  let A := acc.getD d.a.toNat (bZero, bZero); let B := acc.getD d.b.toNat (bZero, bZero)
  if d.op = 11 then (A.2, A.1) else if d.op = 9 then (meetF ty A.1 B.1, joinF ty A.2 B.2) else if d.op = 10 then (joinF ty A.1 B.1, meetF ty A.2 B.2) else if d.col = col then leafG ty d else (bAll, bAll)
def accG (ty col : Int) (l : List Nod) : List (Bnd × Bnd) := l.foldl (fun acc d => acc ++ [stepG ty col acc d]) []
def outG (ty col : Int) (l : List Nod) : Bnd := match (accG ty col l).getLast? with
  | some p => p.1
  | none => bAll
theorem accG_succ (ty col : Int) {l : List Nod} {k : Nat} (h : k < l.length) : accG ty col (l.take (k + 1)) = accG ty col (l.take k) ++ [stepG ty col (accG ty col (l.take k)) (l[k]'h)] := by
  unfold accG
  rw [List.take_succ_eq_append_getElem h, List.foldl_append]
  rfl
theorem accG_len (ty col : Int) (l : List Nod) : (accG ty col l).length = l.length := by
  unfold accG
  suffices h : ∀ (l : List Nod) (a : List (Bnd × Bnd)), (l.foldl (fun acc d => acc ++ [stepG ty col acc d]) a).length = a.length + l.length by simpa using h l []
  intro l
  induction l with
  | nil => intro a; rfl
  | cons d r ih => intro a; rw [List.foldl_cons, ih]; simp; omega
theorem outG_succ (ty col : Int) {l : List Nod} {k : Nat} (h : k < l.length) : outG ty col (l.take (k + 1)) = (stepG ty col (accG ty col (l.take k)) (l[k]'h)).1 := by
  unfold outG
  rw [accG_succ ty col h, List.getLast?_concat]
theorem leafG_any (t col op : Int) (vn : Bool) (n : Int) (s : ByteArray) (lv : Value) (ls : List Val) (a b : Int) (hlv : lv.oneCell' = true) (h1 : 1 ≤ op) (h8 : op ≤ 8) (w : World) (hv : ValsAt w w.heap.size lv ls) :
    Calls Try.prog 40 #[.int .i64 t, .agg #[.int .i64 op, .int .i64 col, .bool vn, .int .i64 n, .string s, lv, .int .i64 a, .int .i64 b]] w fun e w' => e = .returned (.agg (pairC (leafG t ⟨op, col, ⟨vn, n, s⟩, ls, a, b⟩)).toArray) ∧ Below w.heap.size w w' := by
  by_cases h7 : op = 7
  · subst h7; exact leaf_7 t col vn n s lv ls a b w hv
  · have e : leafG t ⟨op, col, ⟨vn, n, s⟩, ls, a, b⟩ = leafF op ⟨vn, n, s⟩ := if_neg h7
    rw [e]
    exact leaf_any t col op vn n s lv a b hlv h1 h8 h7 w
set_option maxRecDepth 8000 in
set_option maxHeartbeats 4000000 in
theorem ofG_ok (cv : Value) (cs : List Col) (key : Int) (nv : Value) (ns : List Nod) (col : Nat) (w : World) (hc : ColsAt w w.heap.size cv cs) (hn : NodsAt w w.heap.size nv ns) (hp : predF cs key ns = 0) (hcl : col < cs.length) :
    Calls Try.prog 24 #[.agg #[cv, .int .i64 key], nv, .int .i64 (col : Int)] w fun e w' => e = .returned (.tuple #[.agg (bndC (outG (cs[col]'hcl).ty col ns)).toArray, .int .i64 0]) ∧ Below w.heap.size w w' := by
  obtain ⟨m64, NA⟩ := predF_all hp
  obtain ⟨ca, cc, rfl⟩ := cols_end hc
  obtain ⟨na, pc, rfl⟩ := nods_end hn
  obtain ⟨nc, hl⟩ : ∃ nc, cs.length = nc := ⟨_, rfl⟩
  obtain ⟨m, hm⟩ : ∃ m, ns.length = m := ⟨_, rfl⟩
  have HC : Hid (ColsAt w w.heap.size (.slice ca nc cc) cs) := Lib.hid (by rw [← hl]; exact hc)
  have HN : Hid (NodsAt w w.heap.size (.slice na m pc) ns) := Lib.hid (by rw [← hm]; exact hn)
  have HM := Lib.hid hm
  have HL := Lib.hid hl
  rw [hl, hm]
  rw [hm] at m64
  obtain ⟨cb, co, rfl, _, hcb, c0, c1, c2, c3⟩ := cols_in hc hcl
  obtain ⟨ty, hty⟩ : ∃ ty, (cs[col]'hcl).ty = ty := ⟨_, rfl⟩
  rw [hty] at c1 ⊢
  have cl' : (col : Int) < (nc : Int) := by omega
  have cl0 : ¬ (col : Int) < 0 := by omega
  have cl1 : ¬ (nc : Int) ≤ (col : Int) := by omega
  have NA' := Lib.hid NA
  have HP := Lib.hid hp
  obtain ⟨i0, hi, hz0, hz1, hz2⟩ := info_parts infoPair
  have hmk := fun w => run_make (P := Try.prog) w 72 74 i0 _ Try.underlying72 hi hz0 .i64 .i64 (m : Int) (m : Int) (by omega) (Int.le_refl _) (by rw [hz2]; omega) (by omega)
  simp only [Int.toNat_natCast, hz1] at hmk
  obtain ⟨MC, hMC⟩ : ∃ MC, madeCells (Value.cells (.agg #[.bool false, .bool false, .bool false, .bool false, .bool false, .int .i64 0, .string ⟨#[]⟩, .bool false, .int .i64 0, .string ⟨#[]⟩, .bool false, .bool false, .bool false, .bool false, .bool false, .int .i64 0, .string ⟨#[]⟩, .bool false, .int .i64 0, .string ⟨#[]⟩])) (m * 20) = MC := ⟨_, rfl⟩
  have hMS : MC.size = m * 20 := by rw [← hMC]; exact size_madeCells _ _
  rw [hMC] at hmk
  have HMS := Lib.hid hMS
  clear hc hn hp NA hl hm c0 c2 c3 hty hi hz0 hz1 hz2 hMC hMS
  have HPC : Hid (predF cs key ns = 0) := HP
  go_enter Try.func24, Try.ntmps24
  go_upto_region 2 with (go_at_call 39; have hC1 : ColsAt ((w.alloc (.cells #[.slice (some ⟨cb, co, none⟩) nc cc, .int .i64 key] 50)).alloc (.cells #[.bool false, .bool false, .bool false, .bool false, .bool false, .int .i64 0, .string ⟨#[]⟩, .bool false, .int .i64 0, .string ⟨#[]⟩] 25)) ((w.alloc (.cells #[.slice (some ⟨cb, co, none⟩) nc cc, .int .i64 key] 50)).alloc (.cells #[.bool false, .bool false, .bool false, .bool false, .bool false, .int .i64 0, .string ⟨#[]⟩, .bool false, .int .i64 0, .string ⟨#[]⟩] 25)).heap.size _ cs := HC.out.mono (Below.al (Below.al (Below.refl _ _) _) _) (by simp; omega); have hN1 : NodsAt ((w.alloc (.cells #[.slice (some ⟨cb, co, none⟩) nc cc, .int .i64 key] 50)).alloc (.cells #[.bool false, .bool false, .bool false, .bool false, .bool false, .int .i64 0, .string ⟨#[]⟩, .bool false, .int .i64 0, .string ⟨#[]⟩] 25)) ((w.alloc (.cells #[.slice (some ⟨cb, co, none⟩) nc cc, .int .i64 key] 50)).alloc (.cells #[.bool false, .bool false, .bool false, .bool false, .bool false, .int .i64 0, .string ⟨#[]⟩, .bool false, .int .i64 0, .string ⟨#[]⟩] 25)).heap.size _ ns := HN.out.mono (Below.al (Below.al (Below.refl _ _) _) _) (by simp; omega); refine (predCheck_any _ cs key _ ns _ hC1 hN1).mono ?_; rintro e w1 ⟨rfl, hb1⟩; obtain ⟨x1, rfl⟩ := Ext.of hb1; have z0 : w.heap.size < x1.it.heap.size := x1.lt (by simp; omega); have z1 : w.heap.size + 1 < x1.it.heap.size := x1.lt (by simp); simp only [HPC.out])
  have hbx : Below w.heap.size w x1.it := Below.on (Below.al (Below.al (Below.refl _ _) _) _) x1
  have f1 := (hbx.cell (p := ⟨cb, co + col * 4 + 1, none⟩) hcb).trans c1
  have zcb : cb < x1.it.heap.size := Nat.lt_of_lt_of_le hcb hbx.size
  have rt : x1.it.there (w.heap.size + 1) 0 10 := there_below (there_new' _ _ _ 10 (by simp) rfl) x1.below (by simp)
  have HRT := Lib.hid rt
  clear rt c1
  go_upto_region 10 with fail
  refine captureE ?_
  intro y ey
  have MEM : OfMem y.it x1.it.heap.size (x1.it.heap.size + 1) (x1.it.heap.size + 1 + 1) (w.heap.size + 1) m [] bAll := by
    rw [ey]
    refine ⟨by simp only [World.size_alloc]; omega, by simp only [World.size_alloc]; omega, by simp only [World.size_alloc]; omega, by simp only [World.size_alloc]; omega, by omega, by omega, by omega, by omega, by omega, by omega, ?_, ?_, ?_, ?_, ?_, fun i h => absurd h (by simp)⟩
    · exact World.rangeAt_alloc (World.rangeAt_alloc (rangeAt_new _ _ _ rfl _ rfl) _) _
    · exact World.there_alloc (there_new' _ _ _ 10 (by simp) rfl) _
    · exact World.rangeAt_alloc (rangeAt_new _ _ _ (by simp) _ rfl) _
    · exact there_new' _ _ _ _ (by simp) HMS.out
    · exact World.there_alloc (World.there_alloc (World.there_alloc HRT.out _) _) _
  have yb : Below w.heap.size w y.it := by rw [ey]; exact (by repeat (first | with_reducible exact Below.refl _ _ | with_reducible assumption | with_reducible refine Below.al ?_ _ | with_reducible refine Below.on ?_ _ | with_reducible refine Below.stc ?_ (by first | assumption | (simp; done) | (simp; omega)) _ _ | with_reducible refine Below.st ?_ (by first | assumption | (simp; done) | (simp; omega)) _ | with_reducible refine Below.drew ?_))
  clear ey hmk
  generalize x1.it.heap.size = AB at *
  have MEM' := Lib.hid MEM
  clear MEM
  go_wp2_with fail
  go_loopg [45] m (fun g st wr => ∃ k : Nat, k + g = m ∧ st = .int .i64 (k : Int) ∧ ∃ x : Ext w, x.it = wr ∧ OfMem x.it AB (AB + 1) (AB + 1 + 1) (w.heap.size + 1) m (accG ty col (ns.take k)) (outG ty col (ns.take k)))
  case atStart => exact ⟨0, by omega, rfl, ⟨y.it, yb⟩, rfl, MEM'.out⟩
  case round =>
    obtain ⟨k, hk, rfl, x, rfl, M⟩ := hrel
    have hx := x.below
    have zA := M.a
    have zO := M.o
    have zL := M.l
    have zR := M.r
    by_cases hg0 : gk = 0
    · subst hg0
      obtain rfl : k = m := by omega
      have TK : ns.take k = ns := List.take_of_length_le (by rw [HM.out]; exact Nat.le_refl _)
      rw [TK] at M
      obtain ⟨R, hR⟩ : ∃ R, outG ty (col : Int) ns = R := ⟨_, rfl⟩
      rw [hR] at M
      have HR := Lib.hid hR
      clear hR
      have OV := Lib.hid M.ov
      have RT := Lib.hid M.rt
      clear M TK hk
      have LD := fun (op : Operand) => trivial
      go_wp2_with (first | ((with_reducible refine wpList_here ?_); refine wpList_load_mid rfl 25 _ rfl (AB + 1) 0 rfl (bndC R) _ OV.out Try.underlying25 rfl (by kernel_rfl) ?_) | ((with_reducible refine wpList_here ?_); refine wpList_store_mid rfl 25 _ _ rfl (w.heap.size + 1) 0 (bndC R).toArray rfl rfl RT.out (by kernel_rfl) (bnd_one R) ?_))
      refine bodyPost_ret (v := .tuple #[.agg (bndC R).toArray, .int .i64 0]) ?hr rfl ⟨by rw [HR.out], ?hb⟩
      case hr => exact results_cell_tmp Try.results24 _ _ (w.heap.size + 1) 0 (bndC R) _ _ rfl (World.rangeAt_setCells_same _ _ _ _ RT.out) Try.underlying25 rfl (by kernel_rfl) rfl
      case hb => exact (by repeat (first | with_reducible exact Below.refl _ _ | with_reducible assumption | with_reducible refine Below.al ?_ _ | with_reducible refine Below.on ?_ _ | with_reducible refine Below.stc ?_ (by first | assumption | (simp; done) | (simp; omega)) _ _ | with_reducible refine Below.st ?_ (by first | assumption | (simp; done) | (simp; omega)) _ | with_reducible refine Below.drew ?_))
    · have hkm : k < m := by omega
      have hkm' : (k : Int) < (m : Int) := by omega
      have hkl : k < ns.length := by rw [HM.out]; exact hkm
      obtain ⟨b, o, rfl, _, hb, lv, c0, c1, c2, c3, c4, c5, c6, c7, hlv⟩ := nods_in HN.out hkl
      have NK := nodE_ok (NA'.out k hkl)
      have AS := accG_succ ty (col : Int) hkl
      have OS := outG_succ ty (col : Int) hkl
      have AL : (accG ty (col : Int) (ns.take k)).length = k := by rw [accG_len, List.length_take]; omega
      obtain ⟨d, hd⟩ : ∃ d, ns[k]'hkl = d := ⟨_, rfl⟩
      rw [hd] at NK AS OS c0 c1 c2 c3 c4 c6 c7 hlv
      obtain ⟨acc, hacc⟩ : ∃ acc, accG ty (col : Int) (ns.take k) = acc := ⟨_, rfl⟩
      obtain ⟨out, hout⟩ : ∃ out, outG ty (col : Int) (ns.take k) = out := ⟨_, rfl⟩
      rw [hacc] at M AS OS AL
      rw [hout] at M
      clear hacc hout
      obtain ⟨dop, dcol, ⟨dvn, dn, ds⟩, dls, da, db⟩ := d
      dsimp only at NK c0 c1 c2 c3 c4 c6 c7 hlv
      have f0' := (hx.cell (p := ⟨b, o + k * 8, none⟩) hb).trans c0
      have f1' := (hx.cell (p := ⟨b, o + k * 8 + 1, none⟩) hb).trans c1
      have f2' := (hx.cell (p := ⟨b, o + k * 8 + 2, none⟩) hb).trans c2
      have f3' := (hx.cell (p := ⟨b, o + k * 8 + 3, none⟩) hb).trans c3
      have f4' := (hx.cell (p := ⟨b, o + k * 8 + 4, none⟩) hb).trans c4
      have f5' := (hx.cell (p := ⟨b, o + k * 8 + 5, none⟩) hb).trans c5
      have f6' := (hx.cell (p := ⟨b, o + k * 8 + 6, none⟩) hb).trans c6
      have f7' := (hx.cell (p := ⟨b, o + k * 8 + 7, none⟩) hb).trans c7
      have zb : b < x.it.heap.size := Nat.lt_of_lt_of_le hb hx.size
      obtain ⟨la, lc, rfl⟩ := vals_end hlv
      obtain ⟨lm, hlm⟩ : ∃ lm, dls.length = lm := ⟨_, rfl⟩
      rw [hlm] at f5' c5 hlv
      have HLV := Lib.hid hlv
      clear hlm
      obtain ⟨np, hnp⟩ : ∃ np, stepG ty (col : Int) acc ⟨dop, dcol, ⟨dvn, dn, ds⟩, dls, da, db⟩ = np := ⟨_, rfl⟩
      rw [hnp] at AS OS
      have NP := Lib.hid hnp
      have AS' := Lib.hid AS
      have OS' := Lib.hid OS
      have M' := Lib.hid M
      have HK := Lib.hid (And.intro hk AL)
      clear c0 c1 c2 c3 c4 c5 c6 c7 hlv hd hnp AS OS M hk AL hg0
      go_upto_block 2 with fail
      go_cut [45] from 46 to 164 (fun st wx => st = .int .i64 (k : Int) ∧ ∃ W' : World, Below w.heap.size w W' ∧ OfMem W' AB (AB + 1) (AB + 1 + 1) (w.heap.size + 1) m acc out ∧ wx = W'.setCells (AB + 1 + 1) (k * 20) (pairC np))
      case first =>
        refine captureE ?_
        intro v ev
        have n0 : v.it.cell? ⟨x.it.heap.size, 0, none⟩ = some (.int .i64 dop) := by simp (maxDischargeDepth := 9) [go_sem, *]
        have n1 : v.it.cell? ⟨x.it.heap.size, 1, none⟩ = some (.int .i64 dcol) := by simp (maxDischargeDepth := 9) [go_sem, *]
        have n2 : v.it.cell? ⟨x.it.heap.size, 2, none⟩ = some (.bool dvn) := by simp (maxDischargeDepth := 9) [go_sem, *]
        have n3 : v.it.cell? ⟨x.it.heap.size, 3, none⟩ = some (.int .i64 dn) := by simp (maxDischargeDepth := 9) [go_sem, *]
        have n4 : v.it.cell? ⟨x.it.heap.size, 4, none⟩ = some (.string ds) := by simp (maxDischargeDepth := 9) [go_sem, *]
        have n5 : v.it.cell? ⟨x.it.heap.size, 5, none⟩ = some (.slice la lm lc) := by simp (maxDischargeDepth := 9) [go_sem, *]
        have n6 : v.it.cell? ⟨x.it.heap.size, 6, none⟩ = some (.int .i64 da) := by simp (maxDischargeDepth := 9) [go_sem, *]
        have n7 : v.it.cell? ⟨x.it.heap.size, 7, none⟩ = some (.int .i64 db) := by simp (maxDischargeDepth := 9) [go_sem, *]
        have MN : OfMem v.it AB (AB + 1) (AB + 1 + 1) (w.heap.size + 1) m acc out := by rw [ev]; exact M'.out.below (Below.al (Below.refl _ _) _)
        have vb : Below w.heap.size w v.it := by rw [ev]; exact Below.al hx _
        have vn : x.it.heap.size < v.it.heap.size := by rw [ev]; simp
        have vA := MN.a
        have vO := MN.o
        have vL := MN.l
        have vR := MN.r
        clear ev f0' f1' f2' f3' f4' f5' f6' f7'
        have MN' := Lib.hid MN
        clear MN
        by_cases o11 : dop = 11
        · subst o11
          obtain ⟨a0, a1⟩ := NK.2.2.1 (by omega)
          obtain ⟨Ai, rfl⟩ : ∃ Ai : Nat, da = Ai := ⟨da.toNat, by omega⟩
          have Aik : Ai < acc.length := by have := HK.out.2; omega
          have Aim : (Ai : Int) < (m : Int) := by omega
          have RAi := MN'.out.lv Ai Aik
          have GAi : acc.getD Ai (bZero, bZero) = acc[Ai]'Aik := by rw [List.getD_eq_getElem?_getD, List.getElem?_eq_getElem Aik]; rfl
          obtain ⟨pAi, eAi⟩ : ∃ p, acc[Ai]'Aik = p := ⟨_, rfl⟩
          rw [eAi] at RAi GAi
          obtain ⟨⟨y0, y1, y2, y3, ⟨y4, y5, y6⟩, ⟨y7, y8, y9⟩⟩, ⟨z0, z1, z2, z3, ⟨z4, z5, z6⟩, ⟨z7, z8, z9⟩⟩⟩ := pAi
          have hAi0 : v.it.cell? ⟨AB + 1 + 1, Ai * 20, none⟩ = some (.bool y0) := RAi 0 _ rfl
          have hAi1 : v.it.cell? ⟨AB + 1 + 1, Ai * 20 + 1, none⟩ = some (.bool y1) := RAi 1 _ rfl
          have hAi2 : v.it.cell? ⟨AB + 1 + 1, Ai * 20 + 2, none⟩ = some (.bool y2) := RAi 2 _ rfl
          have hAi3 : v.it.cell? ⟨AB + 1 + 1, Ai * 20 + 3, none⟩ = some (.bool y3) := RAi 3 _ rfl
          have hAi4 : v.it.cell? ⟨AB + 1 + 1, Ai * 20 + 4, none⟩ = some (.bool y4) := RAi 4 _ rfl
          have hAi5 : v.it.cell? ⟨AB + 1 + 1, Ai * 20 + 5, none⟩ = some (.int .i64 y5) := RAi 5 _ rfl
          have hAi6 : v.it.cell? ⟨AB + 1 + 1, Ai * 20 + 6, none⟩ = some (.string y6) := RAi 6 _ rfl
          have hAi7 : v.it.cell? ⟨AB + 1 + 1, Ai * 20 + 7, none⟩ = some (.bool y7) := RAi 7 _ rfl
          have hAi8 : v.it.cell? ⟨AB + 1 + 1, Ai * 20 + 8, none⟩ = some (.int .i64 y8) := RAi 8 _ rfl
          have hAi9 : v.it.cell? ⟨AB + 1 + 1, Ai * 20 + 9, none⟩ = some (.string y9) := RAi 9 _ rfl
          have hAi10 : v.it.cell? ⟨AB + 1 + 1, Ai * 20 + 10, none⟩ = some (.bool z0) := RAi 10 _ rfl
          have hAi11 : v.it.cell? ⟨AB + 1 + 1, Ai * 20 + 11, none⟩ = some (.bool z1) := RAi 11 _ rfl
          have hAi12 : v.it.cell? ⟨AB + 1 + 1, Ai * 20 + 12, none⟩ = some (.bool z2) := RAi 12 _ rfl
          have hAi13 : v.it.cell? ⟨AB + 1 + 1, Ai * 20 + 13, none⟩ = some (.bool z3) := RAi 13 _ rfl
          have hAi14 : v.it.cell? ⟨AB + 1 + 1, Ai * 20 + 14, none⟩ = some (.bool z4) := RAi 14 _ rfl
          have hAi15 : v.it.cell? ⟨AB + 1 + 1, Ai * 20 + 15, none⟩ = some (.int .i64 z5) := RAi 15 _ rfl
          have hAi16 : v.it.cell? ⟨AB + 1 + 1, Ai * 20 + 16, none⟩ = some (.string z6) := RAi 16 _ rfl
          have hAi17 : v.it.cell? ⟨AB + 1 + 1, Ai * 20 + 17, none⟩ = some (.bool z7) := RAi 17 _ rfl
          have hAi18 : v.it.cell? ⟨AB + 1 + 1, Ai * 20 + 18, none⟩ = some (.int .i64 z8) := RAi 18 _ rfl
          have hAi19 : v.it.cell? ⟨AB + 1 + 1, Ai * 20 + 19, none⟩ = some (.string z9) := RAi 19 _ rfl
          clear RAi
          have e11 : ((⟨z0, z1, z2, z3, ⟨z4, z5, z6⟩, ⟨z7, z8, z9⟩⟩, ⟨y0, y1, y2, y3, ⟨y4, y5, y6⟩, ⟨y7, y8, y9⟩⟩) : Bnd × Bnd) = np := by rw [← NP.out]; unfold stepG; dsimp only; rw [if_pos rfl, Int.toNat_natCast, GAi]
          subst e11
          clear GAi eAi NK n1 n2 n3 n4 n5 n7
          go_upto_region 15 with fail
          refine wp_region_ext_tail 16 (by kernel_rfl) (by kernel_rfl) ?_
          dsimp only [List.take, List.drop]
          repeat (go_big_quiet_step ((fail)))
          refine wpQuiet_nil ?_
          rintro _ ⟨x2, rfl⟩
          have TH : x2.it.there (AB + 1 + 1) (k * 20) 20 := there_below (there_sub MN'.out.lt (by omega)) x2.below vL
          have hb2 : Below w.heap.size w x2.it := Below.on vb x2
          have M2 := Lib.hid (MN'.out.below x2.below)
          refine wpList_store_mid rfl 74 _ _ rfl (AB + 1 + 1) (k * 20) (pairC (⟨z0, z1, z2, z3, ⟨z4, z5, z6⟩, ⟨z7, z8, z9⟩⟩, ⟨y0, y1, y2, y3, ⟨y4, y5, y6⟩, ⟨y7, y8, y9⟩⟩)).toArray rfl rfl TH (by kernel_rfl) (pair_one _) ?_
          go_wp2_with fail
          go_meet
          exact ⟨rfl, x2.it, hb2, M2.out, rfl⟩
        by_cases o9 : dop = 9
        · subst o9
          obtain ⟨a0, a1⟩ := NK.2.2.1 (by omega)
          obtain ⟨b0, b1⟩ := NK.2.2.2 (by omega) (by omega)
          obtain ⟨Ai, rfl⟩ : ∃ Ai : Nat, da = Ai := ⟨da.toNat, by omega⟩
          have Aik : Ai < acc.length := by have := HK.out.2; omega
          have Aim : (Ai : Int) < (m : Int) := by omega
          have RAi := MN'.out.lv Ai Aik
          have GAi : acc.getD Ai (bZero, bZero) = acc[Ai]'Aik := by rw [List.getD_eq_getElem?_getD, List.getElem?_eq_getElem Aik]; rfl
          obtain ⟨pAi, eAi⟩ : ∃ p, acc[Ai]'Aik = p := ⟨_, rfl⟩
          rw [eAi] at RAi GAi
          obtain ⟨⟨y0, y1, y2, y3, ⟨y4, y5, y6⟩, ⟨y7, y8, y9⟩⟩, ⟨z0, z1, z2, z3, ⟨z4, z5, z6⟩, ⟨z7, z8, z9⟩⟩⟩ := pAi
          have hAi0 : v.it.cell? ⟨AB + 1 + 1, Ai * 20, none⟩ = some (.bool y0) := RAi 0 _ rfl
          have hAi1 : v.it.cell? ⟨AB + 1 + 1, Ai * 20 + 1, none⟩ = some (.bool y1) := RAi 1 _ rfl
          have hAi2 : v.it.cell? ⟨AB + 1 + 1, Ai * 20 + 2, none⟩ = some (.bool y2) := RAi 2 _ rfl
          have hAi3 : v.it.cell? ⟨AB + 1 + 1, Ai * 20 + 3, none⟩ = some (.bool y3) := RAi 3 _ rfl
          have hAi4 : v.it.cell? ⟨AB + 1 + 1, Ai * 20 + 4, none⟩ = some (.bool y4) := RAi 4 _ rfl
          have hAi5 : v.it.cell? ⟨AB + 1 + 1, Ai * 20 + 5, none⟩ = some (.int .i64 y5) := RAi 5 _ rfl
          have hAi6 : v.it.cell? ⟨AB + 1 + 1, Ai * 20 + 6, none⟩ = some (.string y6) := RAi 6 _ rfl
          have hAi7 : v.it.cell? ⟨AB + 1 + 1, Ai * 20 + 7, none⟩ = some (.bool y7) := RAi 7 _ rfl
          have hAi8 : v.it.cell? ⟨AB + 1 + 1, Ai * 20 + 8, none⟩ = some (.int .i64 y8) := RAi 8 _ rfl
          have hAi9 : v.it.cell? ⟨AB + 1 + 1, Ai * 20 + 9, none⟩ = some (.string y9) := RAi 9 _ rfl
          have hAi10 : v.it.cell? ⟨AB + 1 + 1, Ai * 20 + 10, none⟩ = some (.bool z0) := RAi 10 _ rfl
          have hAi11 : v.it.cell? ⟨AB + 1 + 1, Ai * 20 + 11, none⟩ = some (.bool z1) := RAi 11 _ rfl
          have hAi12 : v.it.cell? ⟨AB + 1 + 1, Ai * 20 + 12, none⟩ = some (.bool z2) := RAi 12 _ rfl
          have hAi13 : v.it.cell? ⟨AB + 1 + 1, Ai * 20 + 13, none⟩ = some (.bool z3) := RAi 13 _ rfl
          have hAi14 : v.it.cell? ⟨AB + 1 + 1, Ai * 20 + 14, none⟩ = some (.bool z4) := RAi 14 _ rfl
          have hAi15 : v.it.cell? ⟨AB + 1 + 1, Ai * 20 + 15, none⟩ = some (.int .i64 z5) := RAi 15 _ rfl
          have hAi16 : v.it.cell? ⟨AB + 1 + 1, Ai * 20 + 16, none⟩ = some (.string z6) := RAi 16 _ rfl
          have hAi17 : v.it.cell? ⟨AB + 1 + 1, Ai * 20 + 17, none⟩ = some (.bool z7) := RAi 17 _ rfl
          have hAi18 : v.it.cell? ⟨AB + 1 + 1, Ai * 20 + 18, none⟩ = some (.int .i64 z8) := RAi 18 _ rfl
          have hAi19 : v.it.cell? ⟨AB + 1 + 1, Ai * 20 + 19, none⟩ = some (.string z9) := RAi 19 _ rfl
          clear RAi
          obtain ⟨Bi, rfl⟩ : ∃ Bi : Nat, db = Bi := ⟨db.toNat, by omega⟩
          have Bik : Bi < acc.length := by have := HK.out.2; omega
          have Bim : (Bi : Int) < (m : Int) := by omega
          have RBi := MN'.out.lv Bi Bik
          have GBi : acc.getD Bi (bZero, bZero) = acc[Bi]'Bik := by rw [List.getD_eq_getElem?_getD, List.getElem?_eq_getElem Bik]; rfl
          obtain ⟨pBi, eBi⟩ : ∃ p, acc[Bi]'Bik = p := ⟨_, rfl⟩
          rw [eBi] at RBi GBi
          obtain ⟨⟨s0, s1, s2, s3, ⟨s4, s5, s6⟩, ⟨s7, s8, s9⟩⟩, ⟨t0, t1, t2, t3, ⟨t4, t5, t6⟩, ⟨t7, t8, t9⟩⟩⟩ := pBi
          have hBi0 : v.it.cell? ⟨AB + 1 + 1, Bi * 20, none⟩ = some (.bool s0) := RBi 0 _ rfl
          have hBi1 : v.it.cell? ⟨AB + 1 + 1, Bi * 20 + 1, none⟩ = some (.bool s1) := RBi 1 _ rfl
          have hBi2 : v.it.cell? ⟨AB + 1 + 1, Bi * 20 + 2, none⟩ = some (.bool s2) := RBi 2 _ rfl
          have hBi3 : v.it.cell? ⟨AB + 1 + 1, Bi * 20 + 3, none⟩ = some (.bool s3) := RBi 3 _ rfl
          have hBi4 : v.it.cell? ⟨AB + 1 + 1, Bi * 20 + 4, none⟩ = some (.bool s4) := RBi 4 _ rfl
          have hBi5 : v.it.cell? ⟨AB + 1 + 1, Bi * 20 + 5, none⟩ = some (.int .i64 s5) := RBi 5 _ rfl
          have hBi6 : v.it.cell? ⟨AB + 1 + 1, Bi * 20 + 6, none⟩ = some (.string s6) := RBi 6 _ rfl
          have hBi7 : v.it.cell? ⟨AB + 1 + 1, Bi * 20 + 7, none⟩ = some (.bool s7) := RBi 7 _ rfl
          have hBi8 : v.it.cell? ⟨AB + 1 + 1, Bi * 20 + 8, none⟩ = some (.int .i64 s8) := RBi 8 _ rfl
          have hBi9 : v.it.cell? ⟨AB + 1 + 1, Bi * 20 + 9, none⟩ = some (.string s9) := RBi 9 _ rfl
          have hBi10 : v.it.cell? ⟨AB + 1 + 1, Bi * 20 + 10, none⟩ = some (.bool t0) := RBi 10 _ rfl
          have hBi11 : v.it.cell? ⟨AB + 1 + 1, Bi * 20 + 11, none⟩ = some (.bool t1) := RBi 11 _ rfl
          have hBi12 : v.it.cell? ⟨AB + 1 + 1, Bi * 20 + 12, none⟩ = some (.bool t2) := RBi 12 _ rfl
          have hBi13 : v.it.cell? ⟨AB + 1 + 1, Bi * 20 + 13, none⟩ = some (.bool t3) := RBi 13 _ rfl
          have hBi14 : v.it.cell? ⟨AB + 1 + 1, Bi * 20 + 14, none⟩ = some (.bool t4) := RBi 14 _ rfl
          have hBi15 : v.it.cell? ⟨AB + 1 + 1, Bi * 20 + 15, none⟩ = some (.int .i64 t5) := RBi 15 _ rfl
          have hBi16 : v.it.cell? ⟨AB + 1 + 1, Bi * 20 + 16, none⟩ = some (.string t6) := RBi 16 _ rfl
          have hBi17 : v.it.cell? ⟨AB + 1 + 1, Bi * 20 + 17, none⟩ = some (.bool t7) := RBi 17 _ rfl
          have hBi18 : v.it.cell? ⟨AB + 1 + 1, Bi * 20 + 18, none⟩ = some (.int .i64 t8) := RBi 18 _ rfl
          have hBi19 : v.it.cell? ⟨AB + 1 + 1, Bi * 20 + 19, none⟩ = some (.string t9) := RBi 19 _ rfl
          clear RBi
          obtain ⟨G1, hG1⟩ : ∃ G, meetF ty ⟨y0, y1, y2, y3, ⟨y4, y5, y6⟩, ⟨y7, y8, y9⟩⟩ ⟨s0, s1, s2, s3, ⟨s4, s5, s6⟩, ⟨s7, s8, s9⟩⟩ = G := ⟨_, rfl⟩
          obtain ⟨G2, hG2⟩ : ∃ G, joinF ty ⟨z0, z1, z2, z3, ⟨z4, z5, z6⟩, ⟨z7, z8, z9⟩⟩ ⟨t0, t1, t2, t3, ⟨t4, t5, t6⟩, ⟨t7, t8, t9⟩⟩ = G := ⟨_, rfl⟩
          have e9 : (G1, G2) = np := by rw [← NP.out, ← hG1, ← hG2]; unfold stepG; dsimp only; rw [if_neg (by decide), if_pos rfl, Int.toNat_natCast, Int.toNat_natCast, GAi, GBi]
          subst e9
          have K1 := fun w => meet_any ty y0 y1 y2 y3 y4 y5 y6 y7 y8 y9 s0 s1 s2 s3 s4 s5 s6 s7 s8 s9 w
          have K2 := fun w => join_any ty z0 z1 z2 z3 z4 z5 z6 z7 z8 z9 t0 t1 t2 t3 t4 t5 t6 t7 t8 t9 w
          simp only [hG1] at K1
          simp only [hG2] at K2
          obtain ⟨g0, g1, g2, g3, ⟨g4, g5, g6⟩, ⟨g7, g8, g9⟩⟩ := G1
          obtain ⟨j0, j1, j2, j3, ⟨j4, j5, j6⟩, ⟨j7, j8, j9⟩⟩ := G2
          simp only [Bnd.enc'] at K1 K2
          have K1' := Lib.hid K1
          have K2' := Lib.hid K2
          clear GAi GBi eAi eBi NK n1 n2 n3 n4 n5 K1 K2 hG1 hG2
          go_upto_region 17 with fail
          refine wp_region_ext_tail 32 (by kernel_rfl) (by kernel_rfl) ?_
          dsimp only [List.take, List.drop]
          repeat (go_big_quiet_step ((first | (go_at_call 22; exact Calls.ext (K1'.out _)) | (go_at_call 23; exact Calls.ext (K2'.out _)))))
          refine wpQuiet_nil ?_
          rintro _ ⟨x2, rfl⟩
          have TH : x2.it.there (AB + 1 + 1) (k * 20) 20 := there_below (there_sub MN'.out.lt (by omega)) x2.below vL
          have hb2 : Below w.heap.size w x2.it := Below.on vb x2
          have M2 := Lib.hid (MN'.out.below x2.below)
          refine wpList_store_mid rfl 74 _ _ rfl (AB + 1 + 1) (k * 20) (pairC (⟨g0, g1, g2, g3, ⟨g4, g5, g6⟩, ⟨g7, g8, g9⟩⟩, ⟨j0, j1, j2, j3, ⟨j4, j5, j6⟩, ⟨j7, j8, j9⟩⟩)).toArray rfl rfl TH (by kernel_rfl) (pair_one _) ?_
          go_wp2_with fail
          go_meet
          exact ⟨rfl, x2.it, hb2, M2.out, rfl⟩
        by_cases o10 : dop = 10
        · subst o10
          obtain ⟨a0, a1⟩ := NK.2.2.1 (by omega)
          obtain ⟨b0, b1⟩ := NK.2.2.2 (by omega) (by omega)
          obtain ⟨Ai, rfl⟩ : ∃ Ai : Nat, da = Ai := ⟨da.toNat, by omega⟩
          have Aik : Ai < acc.length := by have := HK.out.2; omega
          have Aim : (Ai : Int) < (m : Int) := by omega
          have RAi := MN'.out.lv Ai Aik
          have GAi : acc.getD Ai (bZero, bZero) = acc[Ai]'Aik := by rw [List.getD_eq_getElem?_getD, List.getElem?_eq_getElem Aik]; rfl
          obtain ⟨pAi, eAi⟩ : ∃ p, acc[Ai]'Aik = p := ⟨_, rfl⟩
          rw [eAi] at RAi GAi
          obtain ⟨⟨y0, y1, y2, y3, ⟨y4, y5, y6⟩, ⟨y7, y8, y9⟩⟩, ⟨z0, z1, z2, z3, ⟨z4, z5, z6⟩, ⟨z7, z8, z9⟩⟩⟩ := pAi
          have hAi0 : v.it.cell? ⟨AB + 1 + 1, Ai * 20, none⟩ = some (.bool y0) := RAi 0 _ rfl
          have hAi1 : v.it.cell? ⟨AB + 1 + 1, Ai * 20 + 1, none⟩ = some (.bool y1) := RAi 1 _ rfl
          have hAi2 : v.it.cell? ⟨AB + 1 + 1, Ai * 20 + 2, none⟩ = some (.bool y2) := RAi 2 _ rfl
          have hAi3 : v.it.cell? ⟨AB + 1 + 1, Ai * 20 + 3, none⟩ = some (.bool y3) := RAi 3 _ rfl
          have hAi4 : v.it.cell? ⟨AB + 1 + 1, Ai * 20 + 4, none⟩ = some (.bool y4) := RAi 4 _ rfl
          have hAi5 : v.it.cell? ⟨AB + 1 + 1, Ai * 20 + 5, none⟩ = some (.int .i64 y5) := RAi 5 _ rfl
          have hAi6 : v.it.cell? ⟨AB + 1 + 1, Ai * 20 + 6, none⟩ = some (.string y6) := RAi 6 _ rfl
          have hAi7 : v.it.cell? ⟨AB + 1 + 1, Ai * 20 + 7, none⟩ = some (.bool y7) := RAi 7 _ rfl
          have hAi8 : v.it.cell? ⟨AB + 1 + 1, Ai * 20 + 8, none⟩ = some (.int .i64 y8) := RAi 8 _ rfl
          have hAi9 : v.it.cell? ⟨AB + 1 + 1, Ai * 20 + 9, none⟩ = some (.string y9) := RAi 9 _ rfl
          have hAi10 : v.it.cell? ⟨AB + 1 + 1, Ai * 20 + 10, none⟩ = some (.bool z0) := RAi 10 _ rfl
          have hAi11 : v.it.cell? ⟨AB + 1 + 1, Ai * 20 + 11, none⟩ = some (.bool z1) := RAi 11 _ rfl
          have hAi12 : v.it.cell? ⟨AB + 1 + 1, Ai * 20 + 12, none⟩ = some (.bool z2) := RAi 12 _ rfl
          have hAi13 : v.it.cell? ⟨AB + 1 + 1, Ai * 20 + 13, none⟩ = some (.bool z3) := RAi 13 _ rfl
          have hAi14 : v.it.cell? ⟨AB + 1 + 1, Ai * 20 + 14, none⟩ = some (.bool z4) := RAi 14 _ rfl
          have hAi15 : v.it.cell? ⟨AB + 1 + 1, Ai * 20 + 15, none⟩ = some (.int .i64 z5) := RAi 15 _ rfl
          have hAi16 : v.it.cell? ⟨AB + 1 + 1, Ai * 20 + 16, none⟩ = some (.string z6) := RAi 16 _ rfl
          have hAi17 : v.it.cell? ⟨AB + 1 + 1, Ai * 20 + 17, none⟩ = some (.bool z7) := RAi 17 _ rfl
          have hAi18 : v.it.cell? ⟨AB + 1 + 1, Ai * 20 + 18, none⟩ = some (.int .i64 z8) := RAi 18 _ rfl
          have hAi19 : v.it.cell? ⟨AB + 1 + 1, Ai * 20 + 19, none⟩ = some (.string z9) := RAi 19 _ rfl
          clear RAi
          obtain ⟨Bi, rfl⟩ : ∃ Bi : Nat, db = Bi := ⟨db.toNat, by omega⟩
          have Bik : Bi < acc.length := by have := HK.out.2; omega
          have Bim : (Bi : Int) < (m : Int) := by omega
          have RBi := MN'.out.lv Bi Bik
          have GBi : acc.getD Bi (bZero, bZero) = acc[Bi]'Bik := by rw [List.getD_eq_getElem?_getD, List.getElem?_eq_getElem Bik]; rfl
          obtain ⟨pBi, eBi⟩ : ∃ p, acc[Bi]'Bik = p := ⟨_, rfl⟩
          rw [eBi] at RBi GBi
          obtain ⟨⟨s0, s1, s2, s3, ⟨s4, s5, s6⟩, ⟨s7, s8, s9⟩⟩, ⟨t0, t1, t2, t3, ⟨t4, t5, t6⟩, ⟨t7, t8, t9⟩⟩⟩ := pBi
          have hBi0 : v.it.cell? ⟨AB + 1 + 1, Bi * 20, none⟩ = some (.bool s0) := RBi 0 _ rfl
          have hBi1 : v.it.cell? ⟨AB + 1 + 1, Bi * 20 + 1, none⟩ = some (.bool s1) := RBi 1 _ rfl
          have hBi2 : v.it.cell? ⟨AB + 1 + 1, Bi * 20 + 2, none⟩ = some (.bool s2) := RBi 2 _ rfl
          have hBi3 : v.it.cell? ⟨AB + 1 + 1, Bi * 20 + 3, none⟩ = some (.bool s3) := RBi 3 _ rfl
          have hBi4 : v.it.cell? ⟨AB + 1 + 1, Bi * 20 + 4, none⟩ = some (.bool s4) := RBi 4 _ rfl
          have hBi5 : v.it.cell? ⟨AB + 1 + 1, Bi * 20 + 5, none⟩ = some (.int .i64 s5) := RBi 5 _ rfl
          have hBi6 : v.it.cell? ⟨AB + 1 + 1, Bi * 20 + 6, none⟩ = some (.string s6) := RBi 6 _ rfl
          have hBi7 : v.it.cell? ⟨AB + 1 + 1, Bi * 20 + 7, none⟩ = some (.bool s7) := RBi 7 _ rfl
          have hBi8 : v.it.cell? ⟨AB + 1 + 1, Bi * 20 + 8, none⟩ = some (.int .i64 s8) := RBi 8 _ rfl
          have hBi9 : v.it.cell? ⟨AB + 1 + 1, Bi * 20 + 9, none⟩ = some (.string s9) := RBi 9 _ rfl
          have hBi10 : v.it.cell? ⟨AB + 1 + 1, Bi * 20 + 10, none⟩ = some (.bool t0) := RBi 10 _ rfl
          have hBi11 : v.it.cell? ⟨AB + 1 + 1, Bi * 20 + 11, none⟩ = some (.bool t1) := RBi 11 _ rfl
          have hBi12 : v.it.cell? ⟨AB + 1 + 1, Bi * 20 + 12, none⟩ = some (.bool t2) := RBi 12 _ rfl
          have hBi13 : v.it.cell? ⟨AB + 1 + 1, Bi * 20 + 13, none⟩ = some (.bool t3) := RBi 13 _ rfl
          have hBi14 : v.it.cell? ⟨AB + 1 + 1, Bi * 20 + 14, none⟩ = some (.bool t4) := RBi 14 _ rfl
          have hBi15 : v.it.cell? ⟨AB + 1 + 1, Bi * 20 + 15, none⟩ = some (.int .i64 t5) := RBi 15 _ rfl
          have hBi16 : v.it.cell? ⟨AB + 1 + 1, Bi * 20 + 16, none⟩ = some (.string t6) := RBi 16 _ rfl
          have hBi17 : v.it.cell? ⟨AB + 1 + 1, Bi * 20 + 17, none⟩ = some (.bool t7) := RBi 17 _ rfl
          have hBi18 : v.it.cell? ⟨AB + 1 + 1, Bi * 20 + 18, none⟩ = some (.int .i64 t8) := RBi 18 _ rfl
          have hBi19 : v.it.cell? ⟨AB + 1 + 1, Bi * 20 + 19, none⟩ = some (.string t9) := RBi 19 _ rfl
          clear RBi
          obtain ⟨G1, hG1⟩ : ∃ G, joinF ty ⟨y0, y1, y2, y3, ⟨y4, y5, y6⟩, ⟨y7, y8, y9⟩⟩ ⟨s0, s1, s2, s3, ⟨s4, s5, s6⟩, ⟨s7, s8, s9⟩⟩ = G := ⟨_, rfl⟩
          obtain ⟨G2, hG2⟩ : ∃ G, meetF ty ⟨z0, z1, z2, z3, ⟨z4, z5, z6⟩, ⟨z7, z8, z9⟩⟩ ⟨t0, t1, t2, t3, ⟨t4, t5, t6⟩, ⟨t7, t8, t9⟩⟩ = G := ⟨_, rfl⟩
          have e9 : (G1, G2) = np := by rw [← NP.out, ← hG1, ← hG2]; unfold stepG; dsimp only; rw [if_neg (by decide), if_neg (by decide), if_pos rfl, Int.toNat_natCast, Int.toNat_natCast, GAi, GBi]
          subst e9
          have K1 := fun w => join_any ty y0 y1 y2 y3 y4 y5 y6 y7 y8 y9 s0 s1 s2 s3 s4 s5 s6 s7 s8 s9 w
          have K2 := fun w => meet_any ty z0 z1 z2 z3 z4 z5 z6 z7 z8 z9 t0 t1 t2 t3 t4 t5 t6 t7 t8 t9 w
          simp only [hG1] at K1
          simp only [hG2] at K2
          obtain ⟨g0, g1, g2, g3, ⟨g4, g5, g6⟩, ⟨g7, g8, g9⟩⟩ := G1
          obtain ⟨j0, j1, j2, j3, ⟨j4, j5, j6⟩, ⟨j7, j8, j9⟩⟩ := G2
          simp only [Bnd.enc'] at K1 K2
          have K1' := Lib.hid K1
          have K2' := Lib.hid K2
          clear GAi GBi eAi eBi NK n1 n2 n3 n4 n5 K1 K2 hG1 hG2
          go_upto_region 19 with fail
          refine wp_region_ext_tail 32 (by kernel_rfl) (by kernel_rfl) ?_
          dsimp only [List.take, List.drop]
          repeat (go_big_quiet_step ((first | (go_at_call 23; exact Calls.ext (K1'.out _)) | (go_at_call 22; exact Calls.ext (K2'.out _)))))
          refine wpQuiet_nil ?_
          rintro _ ⟨x2, rfl⟩
          have TH : x2.it.there (AB + 1 + 1) (k * 20) 20 := there_below (there_sub MN'.out.lt (by omega)) x2.below vL
          have hb2 : Below w.heap.size w x2.it := Below.on vb x2
          have M2 := Lib.hid (MN'.out.below x2.below)
          refine wpList_store_mid rfl 74 _ _ rfl (AB + 1 + 1) (k * 20) (pairC (⟨g0, g1, g2, g3, ⟨g4, g5, g6⟩, ⟨g7, g8, g9⟩⟩, ⟨j0, j1, j2, j3, ⟨j4, j5, j6⟩, ⟨j7, j8, j9⟩⟩)).toArray rfl rfl TH (by kernel_rfl) (pair_one _) ?_
          go_wp2_with fail
          go_meet
          exact ⟨rfl, x2.it, hb2, M2.out, rfl⟩
        have hop : 1 ≤ dop ∧ dop ≤ 8 := by have := NK.1; have := NK.2.1; omega
        by_cases oc : dcol = (col : Int)
        · have e8 : leafG ty ⟨dop, dcol, ⟨dvn, dn, ds⟩, dls, da, db⟩ = np := by rw [← NP.out]; unfold stepG; dsimp only; rw [if_neg o11, if_neg o9, if_neg o10, if_pos oc]
          have LF := Lib.hid (leafG_any ty dcol dop dvn dn ds (.slice la lm lc) dls da db rfl hop.1 hop.2 v.it (HLV.out.mono vb vb.size))
          have E8 := Lib.hid e8
          have oc' : (dcol == (col : Int)) = true := by simpa using oc
          clear e8 NK oc
          go_upto_region 22 with (first | (go_at_call 40; refine (LF.out).mono ?_; rintro e w2 ⟨rfl, hb2⟩; obtain ⟨x2, rfl⟩ := Ext.of hb2; rw [E8.out]; have TH : x2.it.there (AB + 1 + 1) (k * 20) 20 := there_below (there_sub MN'.out.lt (by omega)) x2.below vL; have hb2' : Below w.heap.size w x2.it := Below.on vb x2; have M2 := Lib.hid (MN'.out.below x2.below)) | ((with_reducible refine wpList_here ?_); refine wpList_store_mid rfl 74 _ _ rfl (AB + 1 + 1) (k * 20) (pairC np).toArray rfl rfl TH (by kernel_rfl) (pair_one _) ?_))
          go_meet
          exact ⟨rfl, x2.it, hb2', M2.out, rfl⟩
        · have e8 : (bAll, bAll) = np := by rw [← NP.out]; unfold stepG; dsimp only; rw [if_neg o11, if_neg o9, if_neg o10, if_neg oc]
          subst e8
          have q0 : v.it.cell? ⟨AB, 0, none⟩ = some (.bool true) := MN'.out.all 0 _ rfl
          have q1 : v.it.cell? ⟨AB, 1, none⟩ = some (.bool true) := MN'.out.all 1 _ rfl
          have q2 : v.it.cell? ⟨AB, 2, none⟩ = some (.bool false) := MN'.out.all 2 _ rfl
          have q3 : v.it.cell? ⟨AB, 3, none⟩ = some (.bool false) := MN'.out.all 3 _ rfl
          have q4 : v.it.cell? ⟨AB, 4, none⟩ = some (.bool false) := MN'.out.all 4 _ rfl
          have q5 : v.it.cell? ⟨AB, 5, none⟩ = some (.int .i64 0) := MN'.out.all 5 _ rfl
          have q6 : v.it.cell? ⟨AB, 6, none⟩ = some (.string ⟨#[]⟩) := MN'.out.all 6 _ rfl
          have q7 : v.it.cell? ⟨AB, 7, none⟩ = some (.bool false) := MN'.out.all 7 _ rfl
          have q8 : v.it.cell? ⟨AB, 8, none⟩ = some (.int .i64 0) := MN'.out.all 8 _ rfl
          have q9 : v.it.cell? ⟨AB, 9, none⟩ = some (.string ⟨#[]⟩) := MN'.out.all 9 _ rfl
          clear NK hop
          have TH : v.it.there (AB + 1 + 1) (k * 20) 20 := there_sub MN'.out.lt (by omega)
          go_upto_region 22 with ((with_reducible refine wpList_here ?_); refine wpList_store_mid rfl 74 _ _ rfl (AB + 1 + 1) (k * 20) (pairC (bAll, bAll)).toArray rfl rfl TH (by kernel_rfl) (pair_one _) ?_)
          go_meet
          exact ⟨rfl, v.it, vb, MN'.out, rfl⟩
      case rest =>
        obtain ⟨rfl, W', hW', MW, rfl⟩ := hcut
        have MS := MW.step HK.out.2 hkm np
        have T20 : W'.there (AB + 1 + 1) (k * 20) (pairC np).length := there_sub MW.lt (by rw [pairC_len]; omega)
        have RS := World.rangeAt_setCells_same W' (AB + 1 + 1) (k * 20) (pairC np) T20
        have RP := rangeAt_pre (xs := bndC np.1) (ys := bndC np.2) RS
        have OT := World.there_setCells MW.ot (AB + 1 + 1) (k * 20) (pairC np)
        obtain ⟨WB, hWB⟩ : ∃ WB, W'.setCells (AB + 1 + 1) (k * 20) (pairC np) = WB := ⟨_, rfl⟩
        have hbW : Below w.heap.size w WB := by rw [← hWB]; exact Below.stc hW' (by omega) _ _
        rw [hWB] at MS RP OT ⊢
        have RP' := Lib.hid RP
        have OT' := Lib.hid OT
        have MS' := Lib.hid MS
        have MW' := Lib.hid MW
        clear RP OT MS MW RS T20 hWB hW'
        go_upto_region 23 with (first | ((with_reducible refine wpList_here ?_); refine wpList_load_mid rfl 25 _ rfl (AB + 1 + 1) (k * 20) rfl (bndC np.1) _ RP'.out Try.underlying25 rfl (by kernel_rfl) ?_) | ((with_reducible refine wpList_here ?_); refine wpList_store_mid rfl 25 _ _ rfl (AB + 1) 0 (bndC np.1).toArray rfl rfl OT'.out (by kernel_rfl) (bnd_one np.1) ?_))
        go_wp2_with fail
        go_roundg (gk - 1)
        case measure => have := HK.out; omega
        case rel =>
          refine ⟨k + 1, by have := HK.out; omega, by go_num, ⟨WB.setCells (AB + 1) 0 (bndC np.1), Below.stc hbW (by omega) _ _⟩, rfl, ?_⟩
          rw [AS'.out, OS'.out]
          exact MS'.out
end Go.Proofs.Ytjojnakgadfgmaa
