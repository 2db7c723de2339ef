/-
  BATCHSORTISPERMUTATION: the walk. Conditions: none.
-/
import Derived.Test.YtkblkjfejaflkaaAwk
import Derived.Test.YtkblkjfejaflkaaKrc
import Derived.Test.YtkblkjfejaflkaaSmr
import Derived.Test.YtkblkjfejaflkaaKsc
set_option linter.unusedVariables false
set_option linter.unusedSimpArgs false
namespace Go.Proofs.Ytkblkjfejaflkaa
open Go.RowKit Go.ChangeShapes Go.WideShapes Go.ChangeAt Srt
/-- The places from which a stable sort has taken its elements. -/
structure Plc (d : Rc → Rc → Int) (rs : List Rc) (Q : List (Rc × Nat)) : Prop where
  map : Q.map Prod.fst = srt d rs
  len : Q.length = rs.length
  at' : ∀ j (hj : j < Q.length), ∃ h : (Q[j]'hj).2 < rs.length, rs[(Q[j]'hj).2]'h = (Q[j]'hj).1
  all : ∀ k (h : k < rs.length), ∃ j, ∃ hj : j < Q.length, Q[j]'hj = (rs[k]'h, k)
  ord : ∀ i j (hi : i < Q.length) (hj : j < Q.length), i < j → d (Q[i]'hi).1 (Q[j]'hj).1 < 0 ∨ (d (Q[i]'hi).1 (Q[j]'hj).1 = 0 ∧ (Q[i]'hi).2 < (Q[j]'hj).2)
theorem plc_ex (d : Rc → Rc → Int) (hp : Pre d) (rs : List Rc) : ∃ Q, Plc d rs Q := by
  have hp' : Pre (fun a b : Rc × Nat => d a.1 b.1) := ⟨fun x y => hp.anti _ _, fun x y z => hp.trans _ _ _⟩
  have hl : rs.zipIdx.Pairwise (fun a b => a.2 < b.2) := by
    rw [List.pairwise_iff_getElem]
    intro i j hi hj hij
    simp; exact hij
  have perm := srt_perm (fun a b : Rc × Nat => d a.1 b.1) rs.zipIdx
  have hm := srt_map (fun a : Rc × Nat => a.1) d rs.zipIdx
  have hz : rs.zipIdx.map (fun a : Rc × Nat => a.1) = rs := by
    apply List.ext_getElem
    · simp
    · intro i h1 h2; simp
  rw [hz] at hm
  refine ⟨srt (fun a b : Rc × Nat => d a.1 b.1) rs.zipIdx, hm, by rw [srt_len]; simp, fun j hj => ?_, fun k h => ?_, fun i j hi hj hij => ?_⟩
  · have mem := perm.subset (List.getElem_mem hj)
    obtain ⟨i, hi, e⟩ := List.getElem_of_mem mem
    rw [← e]
    simp at hi ⊢
    exact hi
  · have mem : (rs[k]'h, k) ∈ rs.zipIdx := List.mem_iff_getElem.2 ⟨k, by simpa using h, by simp⟩
    obtain ⟨j, hj, e⟩ := List.getElem_of_mem (perm.symm.subset mem)
    exact ⟨j, hj, e⟩
  · exact List.pairwise_iff_getElem.1 (srt_ord (ix := fun a : Rc × Nat => a.2) hp' rs.zipIdx hl) i j hi hj hij
def usd (Q : List (Rc × Nat)) (i k : Nat) : Bool := (Q.take i).any fun q => q.2 == k
theorem usd_zero (Q : List (Rc × Nat)) (k : Nat) : usd Q 0 k = false := rfl
theorem usd_succ (Q : List (Rc × Nat)) {i : Nat} (h : i < Q.length) (k : Nat) : usd Q (i + 1) k = (usd Q i k || ((Q[i]'h).2 == k)) := by
  unfold usd
  rw [List.take_succ_eq_append_getElem h, List.any_append]
  simp
theorem usd_true {Q : List (Rc × Nat)} {i j k : Nat} (hj : j < Q.length) (hij : j < i) (e : (Q[j]'hj).2 = k) : usd Q i k = true := by
  unfold usd
  rw [List.any_eq_true]
  exact ⟨Q[j]'hj, List.mem_iff_getElem.2 ⟨j, by simp; omega, by simp⟩, by simpa using e⟩
theorem Plc.dne {d : Rc → Rc → Int} (hn : ∀ x y, d y x = - d x y) {rs : List Rc} {Q : List (Rc × Nat)} (h : Plc d rs Q) {i k : Nat} (hi : i < Q.length) (hk : k < rs.length) (hlt : k < (Q[i]'hi).2) (hu : usd Q i k = false) : eqRc (rs[k]'hk) (Q[i]'hi).1 = false := by
  cases he : eqRc (rs[k]'hk) (Q[i]'hi).1 with
  | false => rfl
  | true =>
    exfalso
    have e := (eqRc_iff _ _).1 he
    obtain ⟨j, hj, ej⟩ := h.all k hk
    have d0 : ∀ x, d x x = 0 := fun x => by have := hn x x; omega
    rcases Nat.lt_trichotomy j i with q | q | q
    · rw [usd_true hj q (by rw [ej])] at hu; cases hu
    · subst q; rw [ej] at hlt; simp at hlt
    · rcases h.ord i j hi hj q with r | ⟨_, r⟩
      · rw [ej, e, d0] at r; omega
      · rw [ej] at r; simp only at r; omega
theorem Plc.new {d : Rc → Rc → Int} (hn : ∀ x y, d y x = - d x y) {rs : List Rc} {Q : List (Rc × Nat)} (h : Plc d rs Q) {i : Nat} (hi : i < Q.length) : usd Q i (Q[i]'hi).2 = false := by
  cases hu : usd Q i (Q[i]'hi).2 with
  | false => rfl
  | true =>
    exfalso
    unfold usd at hu
    rw [List.any_eq_true] at hu
    obtain ⟨q, hq, e⟩ := hu
    obtain ⟨j, hj, ej⟩ := List.getElem_of_mem hq
    rw [List.length_take] at hj
    rw [List.getElem_take] at ej
    have e2 : (Q[j]'(by omega)).2 = (Q[i]'hi).2 := by rw [ej]; simpa using e
    obtain ⟨h1, e3⟩ := h.at' j (by omega)
    obtain ⟨h2, e4⟩ := h.at' i hi
    have d0 : ∀ x, d x x = 0 := fun x => by have := hn x x; omega
    have e5 : (Q[j]'(by omega)).1 = (Q[i]'hi).1 := by rw [← e3, ← e4]; simp only [e2]
    rcases h.ord j i (by omega) hi (by omega) with r | ⟨_, r⟩
    · rw [e5, d0] at r; omega
    · omega
structure UsM (w6 wr : World) (UB n : Nat) (U : Nat → Bool) : Prop where
  bel : Below w6.heap.size w6 wr
  ge : w6.heap.size ≤ UB
  lt : UB < wr.heap.size
  c : ∀ k, k < n → wr.cell? ⟨UB, k, none⟩ = some (.bool (U k))
  fr : ∀ k, wr.frozen? ⟨UB, k, none⟩ = false
theorem UsM.on {w6 wr wx : World} {UB n : Nat} {U : Nat → Bool} (h : UsM w6 wr UB n U) (hb : Below wr.heap.size wr wx) : UsM w6 wx UB n U :=
  ⟨Below.to h.bel hb, h.ge, Nat.lt_of_lt_of_le h.lt hb.size, fun k hk => (hb.cell (p := ⟨UB, k, none⟩) h.lt).trans (h.c k hk), fun k => (hb.frozen (p := ⟨UB, k, none⟩) h.lt).trans (h.fr k)⟩
theorem UsM.put {w6 wr : World} {UB n : Nat} {U V : Nat → Bool} (h : UsM w6 wr UB n U) {p : Nat} (hp : p < n) (hV : ∀ k, k < n → V k = (U k || (p == k))) : UsM w6 (wr.setCell ⟨UB, p, none⟩ (.bool true)) UB n V := by
  refine ⟨Below.st h.bel h.ge _, h.ge, by simpa using h.lt, fun k hk => ?_, fun k => by rw [World.frozen?_setCell]; exact h.fr k⟩
  by_cases e : p = k
  · subst e
    rw [World.cell?_setCell_same' _ _ _ (by rw [h.c p hk]; rfl), hV p hk]; simp
  · rw [World.cell?_setCell_other (h := by intro e'; simp only [Addr.mk.injEq] at e'; omega), h.c k hk, hV k hk]
    have : (p == k) = false := by simpa using e
    rw [this, Bool.or_false]
theorem infoBool : (Try.prog.info? 4).map (fun i => (i.zero, i.size, i.bytes)) = some (some (.bool false), 1, 1) := by kernel_rfl
theorem made_b {w : World} (m : Nat) (t : TypeId) (n : Nat) (hn : n = w.heap.size) (j : Nat) (hj : j < m) : (w.alloc (.cells (madeCells #[.bool false] m) t)).cell? ⟨n, j, none⟩ = some (.bool false) := by
  subst hn
  rw [World.cell?_alloc_at _ _ _ _ rfl]
  have h := toList_madeCells_one (.bool false) m
  have e : (madeCells #[.bool false] m)[j]? = (madeCells #[.bool false] m).toList[j]? := by simp
  rw [e, h, List.getElem?_replicate, if_pos hj]
def lastI (Q : List (Rc × Nat)) : Nat → Int
  | 0 => -1
  | i + 1 => match Q[i]? with
    | some q => q.2
    | none => 0
theorem lastI_succ {Q : List (Rc × Nat)} {i : Nat} (h : i < Q.length) : lastI Q (i + 1) = (Q[i]'h).2 := by show (match Q[i]? with | some q => (q.2 : Int) | none => 0) = _; rw [List.getElem?_eq_getElem h]
set_option maxRecDepth 8000 in
set_option maxHeartbeats 2000000 in
theorem bsp_walk (vx vl : Value) (zx zl : List Int) (w : World) (h0 : IntsAt w w.heap.size vx zx) (h1 : IntsAt w w.heap.size vl zl) :
    Calls Try.prog 6 #[vx, vl] w fun e w' => e = .returned (.bool true) ∧ Below w.heap.size w w' := by
  have H0 := Lib.hid h0
  have H1 := Lib.hid h1
  clear h0 h1
  go_enter Try.func6, Try.ntmps6
  go_upto_region 2 with (go_at_call 13; refine (keepSchema_any _ _ _ H0.out).mono ?_; rintro e w1 ⟨cv, cs, key, rfl, hc1, hs1, hl1, hb1⟩; obtain ⟨x1, rfl⟩ := Ext.of hb1; obtain ⟨ca, cc, rfl⟩ := cols_end hc1; obtain ⟨nn, hnn⟩ : ∃ nn, cs.length = nn := ⟨_, rfl⟩; rw [hnn] at hc1 hl1 ⊢; have HNN := Lib.hid hnn; clear hnn)
  refine captureM ?_
  intro y0 ey
  have yb1 : Below x1.it.heap.size x1.it y0 := by rw [ey]; exact (by repeat (first | with_reducible exact Below.refl _ _ | with_reducible assumption | with_reducible refine Below.al ?_ _ | with_reducible refine Below.on ?_ _ | with_reducible refine Below.st ?_ (by first | assumption | (simp; done) | (simp; omega)) _ | with_reducible refine Below.drew ?_))
  have yb : Below w.heap.size w y0 := by rw [ey]; exact (by repeat (first | with_reducible exact Below.refl _ _ | with_reducible assumption | with_reducible refine Below.al ?_ _ | with_reducible refine Below.on ?_ _ | with_reducible refine Below.st ?_ (by first | assumption | (simp; done) | (simp; omega)) _ | with_reducible refine Below.drew ?_))
  have zS0 : x1.it.heap.size < y0.heap.size := by rw [ey]; simp
  have s00 : y0.cell? ⟨x1.it.heap.size, 0, none⟩ = some (.slice ca nn cc) := by rw [ey]; simp (maxDischargeDepth := 9) [go_sem, *]
  have s10 : y0.cell? ⟨x1.it.heap.size, 1, none⟩ = some (.int .i64 key) := by rw [ey]; simp (maxDischargeDepth := 9) [go_sem, *]
  have HC := Lib.hid (hc1.mono yb1 yb1.size)
  have SP := Lib.hid (schema_parts hs1)
  have HS := Lib.hid hs1
  clear ey hc1 hs1 hb1 yb1
  generalize x1.it.heap.size = SB at *
  clear x1
  have I1 := Lib.hid ((H1.out.to fun k hk => yb.block k hk).mono yb.size)
  clear H0 H1
  go_upto_region 3 with (go_at_call 14; refine Calls.mono (loose_any _ cs key vl zl 12 _ HC.out I1.out (by decide) (by decide) SP.out.1 SP.out.2.2.1) ?_; rintro e w2 ⟨v2, rs, rfl, hr2, hl2, ho2, hb2⟩; obtain ⟨ra, rc, rfl⟩ := recs_end hr2; obtain ⟨nr, hnr⟩ : ∃ nr, rs.length = nr := ⟨_, rfl⟩; have HR2 := Lib.hid hr2; have HO2 := Lib.hid ho2; have HB2 := Lib.hid hb2; rw [hnr] at hl2 HR2 ⊢; have HNR := Lib.hid hnr; clear hr2 ho2 hb2 hnr)
  have zS2 := Nat.lt_of_lt_of_le zS0 (HB2.out).size
  have s02 := ((HB2.out).cell (p := ⟨SB, 0, none⟩) zS0).trans s00
  have s12 := ((HB2.out).cell (p := ⟨SB, 1, none⟩) zS0).trans s10
  have BW := Lib.hid (Below.to yb HB2.out)
  have HC2 := Lib.hid (HC.out.mono HB2.out HB2.out.size)
  have HV := Lib.hid (rcOk_valid (key := key) HS.out HO2.out)
  have nr12 : nr ≤ 12 := by omega
  obtain ⟨K, hkey, hK⟩ := schema_key HS.out
  subst hkey
  have HK0 := Lib.hid hK
  have SRT := Lib.hid (by have z := bsort_any (.slice ca nn cc) cs K (.slice ra nr rc) rs w2 HC2.out HR2.out (by rw [HNR.out]; omega) (stable_small (by rw [HNR.out]; omega)); rw [show sortF cs K rs = srt (recD (tyK cs K) K) rs from by unfold sortF; rw [if_pos HV.out]] at z; exact z : Calls Try.prog 24 #[.agg #[.slice ca nn cc, .int .i64 (K : Int)], .slice ra nr rc] w2 (SortPost w2 (srt (recD (tyK cs K) K) rs)))
  obtain ⟨Q, hQ⟩ := plc_ex (recD (tyK cs K) K) (recD_pre _ _) rs
  have HQ := Lib.hid hQ
  clear hQ hK
  go_upto_region 4 with (go_at_call 24; refine Calls.mono SRT.out ?_; rintro e w3 ⟨v3, ps3, rfl, M3, hb3⟩; have hr3 := M3.recs (by rw [srt_len, HNR.out]; omega); obtain ⟨sa, sc, rfl⟩ := recs_end hr3; rw [srt_len, HNR.out] at hr3 ⊢; have HR3 := Lib.hid hr3; have HB3 := Lib.hid hb3; clear M3 hr3 hb3)
  have zS3 := Nat.lt_of_lt_of_le zS2 (HB3.out).size
  have s03 := ((HB3.out).cell (p := ⟨SB, 0, none⟩) zS2).trans s02
  have s13 := ((HB3.out).cell (p := ⟨SB, 1, none⟩) zS2).trans s12
  have HC3 := Lib.hid (HC2.out.mono HB3.out HB3.out.size)
  have HZ3 := Lib.hid (HR2.out.mono HB3.out HB3.out.size)
  have BW3 := Lib.hid (Below.to BW.out HB3.out)
  have t0 : ((nr : Int) != (nr : Int)) = false := by simp
  obtain ⟨i0, hi, hz0, hz1, hz2⟩ := info_parts infoBool
  have hmk := fun w => run_make (P := Try.prog) w 47 4 i0 _ Try.underlying47 hi hz0 .i64 .i64 (nr : Int) (nr : Int) (by omega) (Int.le_refl _) (by rw [hz2]; omega) (by omega)
  simp only [Int.toNat_natCast, hz1] at hmk
  obtain ⟨MC, hMC⟩ : ∃ MC, madeCells (Value.cells (.bool false)) (nr * 1) = MC := ⟨_, rfl⟩
  have HMC : Hid (MC = madeCells #[.bool false] nr) := Lib.hid (by rw [← hMC, Nat.mul_one]; rfl)
  rw [hMC] at hmk
  clear hi hz0 hz1 hz2 hMC s02 s12 s00 s10 zS0 zS2 HC HC2 HR2 SRT HB2 HB3 BW I1 yb
  go_upto_region 8 with fail
  refine captureM ?_
  intro y6 ey
  have U6 : UsM w3 y6 w3.heap.size nr (usd Q 0) := by
    rw [ey]
    exact ⟨Below.al (Below.refl _ _) _, Nat.le_refl _, by simp, fun k hk => by rw [HMC.out]; exact made_b nr _ _ rfl k hk, fun k => by simp [go_sem]⟩
  obtain ⟨UB, hUB⟩ : ∃ UB, w3.heap.size = UB := ⟨_, rfl⟩
  have U6' : UsM w3 y6 UB nr (usd Q 0) := by rw [← hUB]; exact U6
  have HU6 := Lib.hid U6'
  clear ey U6 U6' hmk
  rw [hUB]
  clear hUB
  go_wp2_with fail
  go_loopg [9, 32] nr (fun g lv iv wr => ∃ i : Nat, i + g = nr ∧ iv = .int .i64 (i : Int) ∧ lv = .int .i64 (lastI Q i) ∧ UsM w3 wr UB nr (usd Q i))
  case atStart => exact ⟨0, by omega, rfl, rfl, HU6.out⟩
  case round =>
    obtain ⟨i, hig, rfl, rfl, U⟩ := hrel
    obtain ⟨og, hog⟩ : ∃ og, og = gk := ⟨_, rfl⟩
    have HOG := Lib.hid hog
    have HU := Lib.hid U
    have HI := Lib.hid hig
    have hx := U.bel
    have HX := Lib.hid hx
    have zU := U.lt
    have zSw : SB < wr.heap.size := Nat.lt_of_lt_of_le zS3 HX.out.size
    have q0 := (HX.out.cell (p := ⟨SB, 0, none⟩) zS3).trans s03
    have q1 := (HX.out.cell (p := ⟨SB, 1, none⟩) zS3).trans s13
    clear U hog hx HU6
    by_cases hg0 : gk = 0
    · subst hg0
      have hin : ¬ (i : Int) < (nr : Int) := by omega
      clear hig
      go_wp2_with (go_at_call 20; refine Calls.mono (awake15 _) ?_; rintro e w9 ⟨rfl, hb9⟩; have B9 := Lib.hid hb9; clear hb9)
      have BB := Below.to BW3.out (Below.to HX.out B9.out)
      exact bodyPost_ret (v := .bool true) (by simp [results, Try.results6, go_sem, *]) rfl (⟨rfl, BB⟩)
    have hin : (i : Int) < (nr : Int) := by omega
    have hiQ : i < Q.length := by rw [HQ.out.len, HNR.out]; omega
    have GZ := Lib.hid hg0
    obtain ⟨⟨⟨sq, row⟩, p⟩, hqi⟩ : ∃ q, Q[i]'hiQ = q := ⟨_, rfl⟩
    obtain ⟨hpr, hpe⟩ := HQ.out.at' i hiQ
    have hpn : p < nr := by have := hpr; rw [hqi, HNR.out] at this; exact this
    have hpp : rs[p]'(by rw [HNR.out]; exact hpn) = ⟨sq, row⟩ := by simpa only [hqi] using hpe
    have NEW : usd Q i p = false := by have := HQ.out.new (fun x y => recD_neg _ _ x y) hiQ; rw [hqi] at this; exact this
    have DNE := Lib.hid (fun k (hk : k < rs.length) (hlt : k < p) (hu : usd Q i k = false) => (by have := HQ.out.dne (fun x y => recD_neg _ _ x y) hiQ hk (by rw [hqi]; exact hlt) hu; rw [hqi] at this; exact this : eqRc (rs[k]'hk) ⟨sq, row⟩ = false))
    have US := Lib.hid (fun k => (by have := usd_succ Q hiQ k; rw [hqi] at this; exact this : usd Q (i + 1) k = (usd Q i k || (p == k))))
    have LS := Lib.hid (by have := lastI_succ hiQ; rw [hqi] at this; exact this : lastI Q (i + 1) = (p : Int))
    have his : i < (srt (recD (tyK cs K) K) rs).length := by rw [srt_len, HNR.out]; omega
    have hsi : (srt (recD (tyK cs K) K) rs)[i]'his = ⟨sq, row⟩ := by
      have e : (Q.map Prod.fst)[i]'(by simpa using hiQ) = ⟨sq, row⟩ := by simp [hqi]
      simpa only [HQ.out.map] using e
    obtain ⟨sb, so, rfl, _, hsb, c0, lv, c1, hlv⟩ := recs_in HR3.out his
    rw [hsi] at c0 hlv
    dsimp only at c0 hlv
    have f0 := (HX.out.cell (p := ⟨sb, so + i * 2, none⟩) hsb).trans c0
    have f1 := (HX.out.cell (p := ⟨sb, so + i * 2 + 1, none⟩) hsb).trans c1
    have zb : sb < wr.heap.size := Nat.lt_of_lt_of_le hsb HX.out.size
    have VV := Lib.hid (hlv.mono HX.out HX.out.size)
    obtain ⟨la, lc, rfl⟩ := vals_end hlv
    obtain ⟨rl, hrl⟩ : ∃ rl, row.length = rl := ⟨_, rfl⟩
    rw [hrl] at f1 VV hlv
    have VW3 := Lib.hid hlv
    have HRL := Lib.hid hrl
    have HQI := Lib.hid hqi
    have HPP := Lib.hid hpp
    have HNEW := Lib.hid NEW
    have HSB := Lib.hid hsb
    clear c0 c1 hlv hrl hqi hpp NEW hpe hpr hsi hig hg0
    go_upto_region 11 with fail
    refine captureM ?_
    intro u eu
    have ub : Below wr.heap.size wr u := by rw [eu]; exact (by repeat (first | with_reducible exact Below.refl _ _ | with_reducible assumption | with_reducible refine Below.al ?_ _ | with_reducible refine Below.on ?_ _ | with_reducible refine Below.st ?_ (by first | assumption | (simp; done) | (simp; omega)) _ | with_reducible refine Below.drew ?_))
    have uz : wr.heap.size < u.heap.size := by rw [eu]; simp
    have u0 : u.cell? ⟨wr.heap.size, 0, none⟩ = some (.int .i64 sq) := by rw [eu]; simp (maxDischargeDepth := 9) [go_sem, *]
    have u1 : u.cell? ⟨wr.heap.size, 1, none⟩ = some (.slice la rl lc) := by rw [eu]; simp (maxDischargeDepth := 9) [go_sem, *]
    have UU := Lib.hid (HU.out.on ub)
    have VU := Lib.hid (VV.out.mono ub ub.size)
    have XU := Lib.hid (Below.to HX.out ub)
    have nU1 : UB ≠ wr.heap.size := by omega
    have nU2 : wr.heap.size ≠ UB := by omega
    clear eu f0 f1 q0 q1 ub zb zSw zU
    generalize wr.heap.size = RB at *
    go_wp2_with fail
    go_loopg [12] p (fun g st w2' => ∃ k : Nat, k + g = p ∧ st = .int .i64 (k : Int) ∧ ∃ x : Ext u, x.it = w2')
    case atStart => exact ⟨0, by omega, by go_num, ⟨u, Below.refl _ _⟩, rfl⟩
    case round =>
      obtain ⟨k, hkg, rfl, x, rfl⟩ := hrel
      have UX := Lib.hid (UU.out.on x.below)
      have BX := Lib.hid (Below.to XU.out x.below)
      have x0 := (x.cell RB 0 uz).trans u0
      have x1 := (x.cell RB 1 uz).trans u1
      have xz := x.lt uz
      have kn : k < nr := by omega
      have kn1 : (k : Int) < (nr : Int) := by omega
      have kr : k < rs.length := by rw [HNR.out]; exact kn
      have cu := UX.out.c k kn
      have zu := UX.out.lt
      obtain ⟨zb, zo, rfl, _, hzb, c0, mv, c1, hmv⟩ := recs_in HZ3.out kr
      obtain ⟨⟨bsq, brow⟩, hd⟩ : ∃ d, rs[k]'kr = d := ⟨_, rfl⟩
      rw [hd] at c0 hmv
      dsimp only at c0 hmv
      have g0 := (BX.out.cell (p := ⟨zb, zo + k * 2, none⟩) hzb).trans c0
      have g1 := (BX.out.cell (p := ⟨zb, zo + k * 2 + 1, none⟩) hzb).trans c1
      have zzb : zb < x.it.heap.size := Nat.lt_of_lt_of_le hzb BX.out.size
      obtain ⟨C, hC⟩ : ∃ C, eqRc ⟨bsq, brow⟩ ⟨sq, row⟩ = C := ⟨_, rfl⟩
      have SRC := Lib.hid (fun (W : World) (h : Below x.it.heap.size x.it W) => (by have z := sameRec_any bsq mv brow sq (.slice la rl lc) row W (hmv.mono (Below.to BX.out h) (Below.to BX.out h).size) (VU.out.mono (Below.to x.below h) (Below.to x.below h).size); rw [hC] at z; exact z : Calls Try.prog 26 #[.agg #[.int .i64 bsq, mv], .agg #[.int .i64 sq, .slice la rl lc]] W fun e w' => e = .returned (.bool C) ∧ Below W.heap.size W w'))
      obtain ⟨ma, mc, rfl⟩ := vals_end hmv
      generalize brow.length = bl at *
      have HKG := Lib.hid hkg
      have HDK := Lib.hid hd
      have HCC := Lib.hid hC
      clear c0 c1 hmv hd hC
      by_cases hkp : k < p
      · have HKP := Lib.hid hkp
        cases hus : usd Q i k with
        | true =>
          rw [hus] at cu
          clear hkg hkp hus
          go_upto_region 12 with fail
          refine wp_region_ext (by kernel_rfl) (by kernel_rfl) ?_
          repeat (go_big_quiet_step (((go_at_call 26; exact Calls.ext (SRC.out _ (Ext.below _))))))
          refine wpQuiet_nil ?_
          rintro _ ⟨x5, rfl⟩
          go_wp2_with fail
          go_roundg (gk - 1)
          case measure => have := HKG.out; have := HKP.out; omega
          case rel => exact ⟨k + 1, by have := HKG.out; have := HKP.out; omega, by go_num, ⟨x5.it, Below.on x.below x5⟩, rfl⟩
        | false =>
          rw [hus] at cu
          have cf : C = false := by rw [← HCC.out, ← HDK.out]; exact DNE.out k kr hkp hus
          subst cf
          clear hkg hkp hus
          go_upto_region 12 with fail
          refine wp_region_ext (by kernel_rfl) (by kernel_rfl) ?_
          repeat (go_big_quiet_step (((go_at_call 26; exact Calls.ext (SRC.out _ (Ext.below _))))))
          refine wpQuiet_nil ?_
          rintro _ ⟨x5, rfl⟩
          go_wp2_with fail
          go_roundg (gk - 1)
          case measure => have := HKG.out; have := HKP.out; omega
          case rel => exact ⟨k + 1, by have := HKG.out; have := HKP.out; omega, by go_num, ⟨x5.it, Below.on x.below x5⟩, rfl⟩
      obtain rfl : k = p := by omega
      have ct : C = true := by rw [← HCC.out, ← HDK.out, HPP.out]; exact (eqRc_iff _ _).2 rfl
      subst ct
      rw [HNEW.out] at cu
      clear hkg hkp
      go_upto_region 12 with fail
      refine wp_region_ext (by kernel_rfl) (by kernel_rfl) ?_
      repeat (go_big_quiet_step (((go_at_call 26; exact Calls.ext (SRC.out _ (Ext.below _))))))
      refine wpQuiet_nil ?_
      rintro _ ⟨x5, rfl⟩
      have kne : ((k : Int) == (nr : Int)) = false := by simp; omega
      have U5 := Lib.hid (UX.out.on x5.below)
      have B5 := Lib.hid (Below.to BX.out x5.below)
      have v0 := (x5.cell RB 0 xz).trans x0
      have v1 := (x5.cell RB 1 xz).trans x1
      have vz := x5.lt xz
      have zu5 := U5.out.lt
      have cu5 := U5.out.c k kn
      have fz5 := U5.out.fr k
      have XX5 := Lib.hid (Below.to x.below x5.below)
      clear x0 x1 xz cu zu g0 g1 zzb
      rw [HNEW.out] at cu5
      go_upto_region 17 with fail
      refine captureM ?_
      intro z ez
      have UZ0 : Below w3.heap.size w3 (x5.it.setCell ⟨UB, k, none⟩ (.bool true)) := Below.st U5.out.bel U5.out.ge _
      have UZ := Lib.hid (by rw [ez]; exact U5.out.put (V := usd Q (i + 1)) kn (fun q _ => US.out q) : UsM w3 z UB nr (usd Q (i + 1)))
      have zz0 : z.cell? ⟨RB, 0, none⟩ = some (.int .i64 sq) := by rw [ez]; simp (maxDischargeDepth := 9) [go_sem, *]
      have zz1 : z.cell? ⟨RB, 1, none⟩ = some (.slice la rl lc) := by rw [ez]; simp (maxDischargeDepth := 9) [go_sem, *]
      have BZ := Lib.hid (by rw [ez]; exact UZ0 : Below w3.heap.size w3 z)
      have zz2 := (BZ.out.cell (p := ⟨SB, 0, none⟩) zS3).trans s03
      have zz3 := (BZ.out.cell (p := ⟨SB, 1, none⟩) zS3).trans s13
      have zzS : SB < z.heap.size := Nat.lt_of_lt_of_le zS3 BZ.out.size
      have zzR : RB < z.heap.size := by rw [ez]; simpa using vz
      have VZ := Lib.hid (VW3.out.mono BZ.out BZ.out.size)
      have RND := Lib.hid (fun (W : World) (hb : Below z.heap.size z W) => (⟨i + 1, by have := HI.out; have := GZ.out; have := HOG.out; omega, by go_num, by rw [LS.out], UZ.out.on hb⟩ : ∃ i' : Nat, i' + (og - 1) = nr ∧ Value.int .i64 ((i : Int) + 1) = .int .i64 (i' : Int) ∧ Value.int .i64 (k : Int) = .int .i64 (lastI Q i') ∧ UsM w3 W UB nr (usd Q i')))
      clear ez v0 v1 vz zu5 cu5 fz5 u0 u1 uz
      by_cases hi0 : i = 0
      · have i1 : ¬ (0 : Int) < (i : Int) := by omega
        have i1' : decide (0 < i) = false := by simp; omega
        have HI0 := Lib.hid hi0
        clear hi0
        go_wp2_with fail
        go_roundg (og - 1)
        case measure => have := GZ.out; have := HOG.out; omega
        case rel =>
          obtain ⟨i', a, b, c⟩ := RND.out _ (Below.refl _ _)
          exact ⟨i', a, (by rw [← b, HI0.out]), c⟩
      obtain ⟨j, hj⟩ : ∃ j, i = j + 1 := ⟨i - 1, by omega⟩
      have jQ : j < Q.length := by omega
      obtain ⟨⟨⟨bsq2, brow2⟩, p2⟩, hqj⟩ : ∃ q, Q[j]'jQ = q := ⟨_, rfl⟩
      have jos : j < (srt (recD (tyK cs K) K) rs).length := by rw [srt_len]; have := HQ.out.len; omega
      have hsj : (srt (recD (tyK cs K) K) rs)[j]'jos = ⟨bsq2, brow2⟩ := by
        have e : (Q.map Prod.fst)[j]'(by simpa using jQ) = ⟨bsq2, brow2⟩ := by simp [hqj]
        simpa only [HQ.out.map] using e
      obtain ⟨sb2, so2, e2, _, _, d0, mv2, d1, hmv2⟩ := recs_in HR3.out jos
      injection e2 with e2
      injection e2 with e2 e3
      subst e2 e3
      rw [hsj] at d0 hmv2
      dsimp only at d0 hmv2
      have g0 := (BZ.out.cell (p := ⟨sb, so + j * 2, none⟩) HSB.out).trans d0
      have g1 := (BZ.out.cell (p := ⟨sb, so + j * 2 + 1, none⟩) HSB.out).trans d1
      have zsb : sb < z.heap.size := Nat.lt_of_lt_of_le HSB.out BZ.out.size
      have ORD := HQ.out.ord j i jQ hiQ (by omega)
      rw [hqj, HQI.out] at ORD
      dsimp only at ORD
      have LJ : lastI Q i = (p2 : Int) := by rw [hj, lastI_succ jQ, hqj]
      rw [LJ]
      obtain ⟨C, hC⟩ : ∃ C, recD (tyK cs K) K ⟨bsq2, brow2⟩ ⟨sq, row⟩ = C := ⟨_, rfl⟩
      rw [hC] at ORD
      obtain ⟨⟨⟨an, ai, as'⟩, ap⟩, hA⟩ : ∃ r, rankF K ⟨bsq2, brow2⟩ = r := ⟨_, rfl⟩
      obtain ⟨⟨⟨bn, bi, bs'⟩, bp⟩, hB2⟩ : ∃ r, rankF K ⟨sq, row⟩ = r := ⟨_, rfl⟩
      unfold recD at hC
      rw [hA, hB2] at hC
      obtain ⟨ty, hty⟩ : ∃ ty, tyK cs K = ty := ⟨_, rfl⟩
      rw [hty] at hC
      have RA := Lib.hid (fun (W : World) (h : Below z.heap.size z W) => (by have q := refRank_any (.slice ca nn cc) K bsq2 mv2 brow2 W (hmv2.mono (Below.to BZ.out h) (Below.to BZ.out h).size); rw [hA] at q; exact q : Calls Try.prog 15 #[.agg #[.slice ca nn cc, .int .i64 (K : Int)], .agg #[.int .i64 bsq2, mv2]] W fun e w' => e = .returned (.agg #[.bool an, .int .i64 ai, .string as', .int .i64 ap]) ∧ Below W.heap.size W w'))
      have RB2 := Lib.hid (fun (W : World) (h : Below z.heap.size z W) => (by have q := refRank_any (.slice ca nn cc) K sq (.slice la rl lc) row W (VZ.out.mono h h.size); rw [hB2] at q; exact q : Calls Try.prog 15 #[.agg #[.slice ca nn cc, .int .i64 (K : Int)], .agg #[.int .i64 sq, .slice la rl lc]] W fun e w' => e = .returned (.agg #[.bool bn, .int .i64 bi, .string bs', .int .i64 bp]) ∧ Below W.heap.size W w'))
      have CM := Lib.hid (fun W => (by have q := refCompareR_any ty an ai as' ap bn bi bs' bp W; rw [hC] at q; exact q : Calls Try.prog 19 #[.int .i64 ty, .agg #[.bool an, .int .i64 ai, .string as', .int .i64 ap], .agg #[.bool bn, .int .i64 bi, .string bs', .int .i64 bp]] W fun e w' => e = .returned (.int .i64 C) ∧ Below W.heap.size W w'))
      have KY := Lib.hid (fun (W : World) (h : Below z.heap.size z W) => (by have q := keyType_any (.slice ca nn cc) cs K HK0.out W (HC3.out.mono (Below.to BZ.out h) (Below.to BZ.out h).size); rw [hty] at q; exact q : Calls Try.prog 16 #[.agg #[.slice ca nn cc, .int .i64 (K : Int)]] W fun e w' => e = .returned (.int .i64 ty) ∧ Below W.heap.size W w'))
      obtain ⟨ma2, mc2, rfl⟩ := vals_end hmv2
      generalize brow2.length = bl2 at *
      have i1 : (0 : Int) < (i : Int) := by omega
      have i1' : decide (0 < i) = true := by simp; omega
      have i0 : IntKind.i64.wrap ((i : Int) - 1) = (j : Int) := by rw [IntKind.wrap_i64]; omega
      have i0' : (i : Int) - 1 = (j : Int) := by omega
      have i2 : (0 : Int) ≤ (j : Int) := by omega
      have i4 : (j : Int) < (nr : Int) := by omega
      have HORD := Lib.hid ORD
      clear hi0 hj hqj hsj d0 d1 hmv2 LJ hA hB2 hty hC jos jQ ORD
      go_upto_region 18 with fail
      refine wp_region_ext (by kernel_rfl) (by kernel_rfl) ?_
      repeat (go_big_quiet_step ((first | (go_at_call 16; exact Calls.ext (KY.out _ (Ext.below _))) | (go_at_call 15; with_reducible exact Calls.ext (RA.out _ (Ext.below _))) | (go_at_call 15; with_reducible exact Calls.ext (RB2.out _ (Ext.below _))) | (go_at_call 19; exact Calls.ext (CM.out _)))))
      refine wpQuiet_nil ?_
      rintro _ ⟨x9, rfl⟩
      clear i0 i0' i2 i4 i1 i1' g0 g1
      rcases HORD.out with r | ⟨r, r2⟩
      · have c1 : ¬ (0 : Int) < C := by omega
        have c2 : (C == 0) = false := by simp; omega
        clear r
        go_wp2_with fail
        go_roundg (og - 1)
        case measure => have := GZ.out; have := HOG.out; omega
        case rel => exact RND.out _ x9.below
      · subst r
        have c1 : ¬ ((k : Int) < (p2 : Int)) := by omega
        have c2 : decide (k < p2) = false := by simp; omega
        clear r2
        go_wp2_with fail
        go_roundg (og - 1)
        case measure => have := GZ.out; have := HOG.out; omega
        case rel => exact RND.out _ x9.below
end Go.Proofs.Ytkblkjfejaflkaa
