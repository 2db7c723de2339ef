/-
  VECTORSELECTS: the walk. Conditions: the lists lie in memory; at most 1048576 elements each.
-/
import Derived.Test.YtploieofmnlomaaVrm
import Derived.Test.YtploieofmnlomaaVaw
import Derived.Test.YtploieofmnlomaaKsc
import Derived.Test.YtploieofmnlomaaKpr
import Derived.Test.YtploieofmnlomaaOps
set_option linter.unusedVariables false
set_option linter.unusedSimpArgs false
namespace Go.Proofs.Ytploieofmnlomaa
open Go.RowKit Go.ChangeShapes Go.WideShapes Go.ChangeAt
def nearF (sel : List Int) : List Int := sel.map fun i => pickI i 12 - 1
theorem nearF_succ {sel : List Int} {k : Nat} (h : k < sel.length) : nearF (sel.take (k + 1)) = nearF (sel.take k) ++ [pickI (sel[k]'h) 12 - 1] := by
  unfold nearF; rw [List.take_succ_eq_append_getElem h, List.map_append]; rfl
set_option maxRecDepth 8000 in
set_option maxHeartbeats 2000000 in
theorem vsw_walk (tv sv colv csv vx vm : Value) (ts sel : List Int) (col : List Val) (cols : List (List Val)) (zx zm : List Int) (w : World)
    (ht : IntsAt w w.heap.size tv ts) (hs : IntsAt w w.heap.size sv sel) (hc : ValsAt w w.heap.size colv col) (hcs : RowsAt w w.heap.size csv cols) (h0 : IntsAt w w.heap.size vx zx) (h2 : IntsAt w w.heap.size vm zm)
    (lt : ts.length ≤ 1048576) (ls : sel.length ≤ 1048576) (lc : cols.length ≤ 1048576) :
    Calls Try.prog 8 #[tv, sv, colv, csv, vx, vm] w fun e w' => e = .returned (.bool true) ∧ Below w.heap.size w w' := by
  obtain ⟨sa, sc, rfl⟩ := ints_end hs
  obtain ⟨n, hn⟩ : ∃ n, sel.length = n := ⟨_, rfl⟩
  have HN := Lib.hid hn
  have H0 := Lib.hid h0
  have H2 := Lib.hid h2
  have HT := Lib.hid ht
  have HS := Lib.hid hs
  have HC := Lib.hid hc
  have HCS := Lib.hid hcs
  have LT := Lib.hid lt
  have LS := Lib.hid ls
  have LC := Lib.hid lc
  rw [hn] at HS ls ⊢
  clear h0 h2 ht hs hc hcs lt lc hn
  go_enter Try.func8, Try.ntmps8
  go_upto_region 2 with (go_at_call 11; refine (keepSchema_any _ _ _ H0.out).mono ?_; rintro e w1 ⟨cv, cs, key, rfl, hc1, hs1, hl1, hb1⟩; obtain ⟨x1, rfl⟩ := Ext.of hb1; obtain ⟨ca, cc, rfl⟩ := cols_end hc1; obtain ⟨nn, hnn⟩ : ∃ nn, cs.length = nn := ⟨_, rfl⟩; rw [hnn] at hc1 hl1 ⊢; have HNN := Lib.hid hnn; clear hnn)
  refine captureM ?_
  intro y ey
  have yb1 : Below x1.it.heap.size x1.it y := by rw [ey]; exact (by repeat (first | with_reducible exact Below.refl _ _ | with_reducible assumption | with_reducible refine Below.al ?_ _ | with_reducible refine Below.on ?_ _ | with_reducible refine Below.st ?_ (by first | assumption | (simp; done) | (simp; omega)) _ | with_reducible refine Below.drew ?_))
  have yb : Below w.heap.size w y := by rw [ey]; exact (by repeat (first | with_reducible exact Below.refl _ _ | with_reducible assumption | with_reducible refine Below.al ?_ _ | with_reducible refine Below.on ?_ _ | with_reducible refine Below.st ?_ (by first | assumption | (simp; done) | (simp; omega)) _ | with_reducible refine Below.drew ?_))
  have z0 : x1.it.heap.size < y.heap.size := by rw [ey]; simp
  have s0 : y.cell? ⟨x1.it.heap.size, 0, none⟩ = some (.slice ca nn cc) := by rw [ey]; simp (maxDischargeDepth := 9) [go_sem, *]
  have s1 : y.cell? ⟨x1.it.heap.size, 1, none⟩ = some (.int .i64 key) := by rw [ey]; simp (maxDischargeDepth := 9) [go_sem, *]
  have HK := Lib.hid (hc1.mono yb1 yb1.size)
  have SP := Lib.hid (schema_parts hs1)
  have J2 := Lib.hid ((H2.out.to fun k hk => yb.block k hk).mono yb.size)
  clear ey hc1 hs1 hb1 yb1 H0 H2
  generalize x1.it.heap.size = SB at *
  clear x1
  go_region_held3 (fun w' => w'.cell? ⟨SB, 0, none⟩ = some (.slice ca nn cc) ∧ w'.cell? ⟨SB, 1, none⟩ = some (.int .i64 key)) (first | exact ⟨by assumption, by assumption⟩ | (refine ⟨?_, ?_⟩ <;> simp [go_sem, *]))
    (first | (go_at_call 14; refine Calls.mono (rows_any _ cs key vm zm 9 _ (HK.out.mono (by repeat (first | with_reducible exact Below.refl _ _ | with_reducible assumption | with_reducible refine Below.al ?_ _ | with_reducible refine Below.on ?_ _ | with_reducible refine Below.st ?_ (by first | assumption | (simp; done) | (simp; omega)) _ | with_reducible refine Below.drew ?_)) (by simp)) ((J2.out.to fun k hk => Below.block (B := y.heap.size) (by repeat (first | with_reducible exact Below.refl _ _ | with_reducible assumption | with_reducible refine Below.al ?_ _ | with_reducible refine Below.on ?_ _ | with_reducible refine Below.st ?_ (by first | assumption | (simp; done) | (simp; omega)) _ | with_reducible refine Below.drew ?_)) k hk).mono (by simp)) (by decide) (by decide) SP.out.1 SP.out.2.2.1) ?_; rintro e w3 ⟨rv, rows, rfl, hr3, hl3, hv3, hb3⟩; obtain ⟨x3, rfl⟩ := Ext.of hb3; obtain ⟨ra, rc, rfl⟩ := rows_end hr3; have HR3 := Lib.hid hr3; have HV3 := Lib.hid hv3; have HL3 := Lib.hid hl3; clear hr3 hv3 hl3; have z3 : SB < x3.it.heap.size := x3.lt (by simpa using z0); have p0 : x3.it.cell? ⟨SB, 0, none⟩ = some (.slice ca nn cc) := (x3.cell SB 0 (by simpa using z0)).trans s0; have p1 : x3.it.cell? ⟨SB, 1, none⟩ = some (.int .i64 key) := (x3.cell SB 1 (by simpa using z0)).trans s1) | (go_at_call 13; refine Calls.mono (columns_any _ cs key _ rows _ (HK.out.mono (by repeat (first | with_reducible exact Below.refl _ _ | with_reducible assumption | with_reducible refine Below.al ?_ _ | with_reducible refine Below.on ?_ _ | with_reducible refine Below.st ?_ (by first | assumption | (simp; done) | (simp; omega)) _ | with_reducible refine Below.drew ?_)) (by simpa using x3.below.size)) (HR3.out.mono (by repeat (first | with_reducible exact Below.refl _ _ | with_reducible assumption | with_reducible refine Below.al ?_ _ | with_reducible refine Below.on ?_ _ | with_reducible refine Below.st ?_ (by first | assumption | (simp; done) | (simp; omega)) _ | with_reducible refine Below.drew ?_)) (by simp)) SP.out.2.2.1 (by have := HL3.out; omega) (fun r hr => (HV3.out r hr).1)) ?_; rintro e w4 ⟨cv4, rfl, hr4, hb4⟩; obtain ⟨x4, rfl⟩ := Ext.of hb4; have HR4 := Lib.hid hr4; clear hr4; have z4 : SB < x4.it.heap.size := x4.lt (by simpa using z3); have r0 : x4.it.cell? ⟨SB, 0, none⟩ = some (.slice ca nn cc) := (x4.cell SB 0 (by simpa using z3)).trans p0; have r1 : x4.it.cell? ⟨SB, 1, none⟩ = some (.int .i64 key) := (x4.cell SB 1 (by simpa using z3)).trans p1))
  have b4 : Below y.heap.size y x4.it := by repeat (first | with_reducible exact Below.refl _ _ | with_reducible assumption | with_reducible refine Below.al ?_ _ | with_reducible refine Below.on ?_ _ | with_reducible refine Below.st ?_ (by first | assumption | (simp; done) | (simp; omega)) _ | with_reducible refine Below.drew ?_)
  have B4 : Below w.heap.size w x4.it := yb.trans (b4.mono yb.size)
  have CL : (colsOf cs.length rows).length ≤ 1048576 := by unfold colsOf; simp; have := SP.out.2.2.1; omega
  obtain ⟨cc4, hcc4⟩ : ∃ q, colsOf cs.length rows = q := ⟨_, rfl⟩
  have HR4c := HR4.out
  rw [hcc4] at CL HR4c
  have HR4' := Lib.hid HR4c
  have HCL := Lib.hid CL
  have B4h := Lib.hid B4
  clear HR3 HV3 HL3 HR4 HR4c hcc4 CL HK SP J2 z3 p0 p1 s0 s1 z0 hb3 hb4 b4 z4 r0 r1 yb B4
  generalize x4.it = w4 at *
  clear x4
  clear x3
  clear y
  obtain ⟨i0, hi, hz0, hz1, hz2⟩ := info_parts infoInt1
  go_wp2_with fail
  go_loopg [15, 27] n (fun g v st wr => ∃ k : Nat, k + g = n ∧ st = .int .i64 (k : Int) ∧ ∃ x : Ext w4, x.it = wr ∧ wr.ownsRow w4.heap.size 3 1 v (nearF (sel.take k)).length ((nearF (sel.take k)).flatMap intC))
  case atStart => exact ⟨0, by omega, rfl, ⟨w4, Below.refl _ _⟩, rfl, World.ownsRow_nil _ _ _ _⟩
  case round =>
    obtain ⟨k, hk, rfl, x, rfl, hown⟩ := hrel
    have hx := x.below
    have B5 : Below w.heap.size w x.it := B4h.out.trans (hx.mono B4h.out.size)
    have nl : (nearF (sel.take k)).length = k := by unfold nearF; rw [List.length_map, List.length_take, HN.out]; omega
    by_cases hg0 : gk = 0
    · subst hg0
      obtain rfl : k = n := by omega
      have TK : sel.take k = sel := List.take_of_length_le (by rw [HN.out]; exact Nat.le_refl _)
      rw [TK] at hown nl
      have IV := Lib.hid (own_ints (fun z hz => by
        unfold nearF at hz
        obtain ⟨i, _, rfl⟩ := List.mem_map.1 hz
        have := pickI_bd i (n := 12) (by omega)
        unfold isI; omega) (by omega) hown)
      have NLE : (nearF sel).length ≤ 1048576 := by omega
      obtain ⟨na, nq, hnv⟩ := own_form hown
      obtain ⟨w5, hw5⟩ : ∃ w5, x.it = w5 := ⟨_, rfl⟩
      rw [hw5] at IV B5 hx ⊢
      obtain ⟨near, hnear⟩ : ∃ q, nearF sel = q := ⟨_, rfl⟩
      rw [hnear] at NLE
      have IV' := IV.out
      rw [hnear] at IV'
      have CSelect := Lib.hid (fun (W : World) (hb : Below w5.heap.size w5 W) => select_m tv ts W ((HT.out.to fun k hk => (B5.trans (hb.mono B5.size)).block k hk).mono (B5.trans (hb.mono B5.size)).size) LT.out)
      have RSelect := Lib.hid (fun (W : World) (hb : Below w5.heap.size w5 W) => refselect_m tv ts W ((HT.out.to fun k hk => (B5.trans (hb.mono B5.size)).block k hk).mono (B5.trans (hb.mono B5.size)).size) LT.out)
      have CTake := Lib.hid (fun (W : World) (hb : Below w5.heap.size w5 W) => take_m colv col (.slice sa k sc) sel W (HC.out.mono (B5.trans (hb.mono B5.size)) (B5.trans (hb.mono B5.size)).size) ((HS.out.to fun k hk => (B5.trans (hb.mono B5.size)).block k hk).mono (B5.trans (hb.mono B5.size)).size) LS.out)
      have RTake := Lib.hid (fun (W : World) (hb : Below w5.heap.size w5 W) => reftake_m colv col (.slice sa k sc) sel W (HC.out.mono (B5.trans (hb.mono B5.size)) (B5.trans (hb.mono B5.size)).size) ((HS.out.to fun k hk => (B5.trans (hb.mono B5.size)).block k hk).mono (B5.trans (hb.mono B5.size)).size) LS.out)
      have CTakeN := Lib.hid (fun (W : World) (hb : Below w5.heap.size w5 W) => take_m colv col u15 near W (HC.out.mono (B5.trans (hb.mono B5.size)) (B5.trans (hb.mono B5.size)).size) ((IV'.to fun k hk => hb.block k hk).mono hb.size) NLE)
      have RTakeN := Lib.hid (fun (W : World) (hb : Below w5.heap.size w5 W) => reftake_m colv col u15 near W (HC.out.mono (B5.trans (hb.mono B5.size)) (B5.trans (hb.mono B5.size)).size) ((IV'.to fun k hk => hb.block k hk).mono hb.size) NLE)
      have CRows := Lib.hid (fun (W : World) (hb : Below w5.heap.size w5 W) => vrows_m csv cols (.slice sa k sc) sel W (HCS.out.mono (B5.trans (hb.mono B5.size)) (B5.trans (hb.mono B5.size)).size) ((HS.out.to fun k hk => (B5.trans (hb.mono B5.size)).block k hk).mono (B5.trans (hb.mono B5.size)).size) LC.out LS.out)
      have RRows := Lib.hid (fun (W : World) (hb : Below w5.heap.size w5 W) => refrows_m csv cols (.slice sa k sc) sel W (HCS.out.mono (B5.trans (hb.mono B5.size)) (B5.trans (hb.mono B5.size)).size) ((HS.out.to fun k hk => (B5.trans (hb.mono B5.size)).block k hk).mono (B5.trans (hb.mono B5.size)).size) LC.out LS.out)
      have CRowsN := Lib.hid (fun (W : World) (hb : Below w5.heap.size w5 W) => vrows_m cv4 cc4 u15 near W (HR4'.out.mono (hx.trans (hb.mono hx.size)) (hx.trans (hb.mono hx.size)).size) ((IV'.to fun k hk => hb.block k hk).mono hb.size) HCL.out NLE)
      have RRowsN := Lib.hid (fun (W : World) (hb : Below w5.heap.size w5 W) => refrows_m cv4 cc4 u15 near W (HR4'.out.mono (hx.trans (hb.mono hx.size)) (hx.trans (hb.mono hx.size)).size) ((IV'.to fun k hk => hb.block k hk).mono hb.size) HCL.out NLE)
      have BB := Lib.hid B5
      clear hk hown TK nl hw5 hnear IV IV' NLE hx B5 HT HS HC HCS HR4' HCL B4h hnv
      clear x
      go_wp2_with (first | (go_at_call 17; refine (awake25 _).mono ?_; rintro e w6 ⟨rfl, hb6⟩; obtain ⟨x6, rfl⟩ := Ext.of hb6) | (go_at_call 10; (with_reducible refine Calls.mono (CSelect.out _ ?_) ?_); (focus (repeat (first | with_reducible exact Below.refl _ _ | with_reducible assumption | with_reducible refine Below.al ?_ _ | with_reducible refine Below.on ?_ _ | with_reducible refine Below.st ?_ (by first | assumption | (simp; done) | (simp; omega)) _ | with_reducible refine Below.drew ?_))); rintro e w10 ⟨u10, rfl, hi10, hb10⟩; obtain ⟨x10, rfl⟩ := Ext.of hb10; have HI10 := Lib.hid hi10; clear hi10) | (go_at_call 22; (with_reducible refine Calls.mono (RSelect.out _ ?_) ?_); (focus (repeat (first | with_reducible exact Below.refl _ _ | with_reducible assumption | with_reducible refine Below.al ?_ _ | with_reducible refine Below.on ?_ _ | with_reducible refine Below.st ?_ (by first | assumption | (simp; done) | (simp; omega)) _ | with_reducible refine Below.drew ?_))); rintro e w11 ⟨u11, rfl, hi11, hb11⟩; obtain ⟨x11, rfl⟩ := Ext.of hb11; have HI11 := Lib.hid hi11; clear hi11; have HC10 := Lib.hid ((HI10.out.to fun k hk => x11.below.block k hk).mono x11.below.size)) | (go_at_call 9; (with_reducible refine Calls.mono (same_any _ _ _ _ _ HC10.out HI11.out) ?_); rw [decide_eq_true rfl]; rintro e w12 ⟨rfl, hb12⟩; obtain ⟨x12, rfl⟩ := Ext.of hb12) | (go_at_call 24; (with_reducible refine Calls.mono (CTake.out _ ?_) ?_); (focus (repeat (first | with_reducible exact Below.refl _ _ | with_reducible assumption | with_reducible refine Below.al ?_ _ | with_reducible refine Below.on ?_ _ | with_reducible refine Below.st ?_ (by first | assumption | (simp; done) | (simp; omega)) _ | with_reducible refine Below.drew ?_))); rintro e w13 ⟨u13, rfl, hi13, hb13⟩; obtain ⟨x13, rfl⟩ := Ext.of hb13; have HI13 := Lib.hid hi13; clear hi13) | (go_at_call 25; (with_reducible refine Calls.mono (RTake.out _ ?_) ?_); (focus (repeat (first | with_reducible exact Below.refl _ _ | with_reducible assumption | with_reducible refine Below.al ?_ _ | with_reducible refine Below.on ?_ _ | with_reducible refine Below.st ?_ (by first | assumption | (simp; done) | (simp; omega)) _ | with_reducible refine Below.drew ?_))); rintro e w14 ⟨u14, rfl, hi14, hb14⟩; obtain ⟨x14, rfl⟩ := Ext.of hb14; have HI14 := Lib.hid hi14; clear hi14; have HC13 := Lib.hid (HI13.out.mono x14.below x14.below.size)) | (go_at_call 23; (with_reducible refine Calls.mono (same_vals _ _ _ _ HC13.out HI14.out) ?_); rintro e w15 ⟨rfl, hb15⟩; obtain ⟨x15, rfl⟩ := Ext.of hb15) | (go_at_call 24; (with_reducible refine Calls.mono (CTakeN.out _ ?_) ?_); (focus (repeat (first | with_reducible exact Below.refl _ _ | with_reducible assumption | with_reducible refine Below.al ?_ _ | with_reducible refine Below.on ?_ _ | with_reducible refine Below.st ?_ (by first | assumption | (simp; done) | (simp; omega)) _ | with_reducible refine Below.drew ?_))); rintro e w16 ⟨u16, rfl, hi16, hb16⟩; obtain ⟨x16, rfl⟩ := Ext.of hb16; have HI16 := Lib.hid hi16; clear hi16) | (go_at_call 25; (with_reducible refine Calls.mono (RTakeN.out _ ?_) ?_); (focus (repeat (first | with_reducible exact Below.refl _ _ | with_reducible assumption | with_reducible refine Below.al ?_ _ | with_reducible refine Below.on ?_ _ | with_reducible refine Below.st ?_ (by first | assumption | (simp; done) | (simp; omega)) _ | with_reducible refine Below.drew ?_))); rintro e w17 ⟨u17, rfl, hi17, hb17⟩; obtain ⟨x17, rfl⟩ := Ext.of hb17; have HI17 := Lib.hid hi17; clear hi17; have HC16 := Lib.hid (HI16.out.mono x17.below x17.below.size)) | (go_at_call 23; (with_reducible refine Calls.mono (same_vals _ _ _ _ HC16.out HI17.out) ?_); rintro e w18 ⟨rfl, hb18⟩; obtain ⟨x18, rfl⟩ := Ext.of hb18) | (go_at_call 21; (with_reducible refine Calls.mono (CRows.out _ ?_) ?_); (focus (repeat (first | with_reducible exact Below.refl _ _ | with_reducible assumption | with_reducible refine Below.al ?_ _ | with_reducible refine Below.on ?_ _ | with_reducible refine Below.st ?_ (by first | assumption | (simp; done) | (simp; omega)) _ | with_reducible refine Below.drew ?_))); rintro e w19 ⟨u19, rfl, hi19, hb19⟩; obtain ⟨x19, rfl⟩ := Ext.of hb19; have HI19 := Lib.hid hi19; clear hi19) | (go_at_call 26; (with_reducible refine Calls.mono (RRows.out _ ?_) ?_); (focus (repeat (first | with_reducible exact Below.refl _ _ | with_reducible assumption | with_reducible refine Below.al ?_ _ | with_reducible refine Below.on ?_ _ | with_reducible refine Below.st ?_ (by first | assumption | (simp; done) | (simp; omega)) _ | with_reducible refine Below.drew ?_))); rintro e w20 ⟨u20, rfl, hi20, hb20⟩; obtain ⟨x20, rfl⟩ := Ext.of hb20; have HI20 := Lib.hid hi20; clear hi20; have HC19 := Lib.hid (HI19.out.mono x20.below x20.below.size)) | (go_at_call 20; (with_reducible refine Calls.mono (same_lists _ _ _ _ HC19.out HI20.out) ?_); rintro e w21 ⟨rfl, hb21⟩; obtain ⟨x21, rfl⟩ := Ext.of hb21) | (go_at_call 21; (with_reducible refine Calls.mono (CRowsN.out _ ?_) ?_); (focus (repeat (first | with_reducible exact Below.refl _ _ | with_reducible assumption | with_reducible refine Below.al ?_ _ | with_reducible refine Below.on ?_ _ | with_reducible refine Below.st ?_ (by first | assumption | (simp; done) | (simp; omega)) _ | with_reducible refine Below.drew ?_))); rintro e w22 ⟨u22, rfl, hi22, hb22⟩; obtain ⟨x22, rfl⟩ := Ext.of hb22; have HI22 := Lib.hid hi22; clear hi22) | (go_at_call 26; (with_reducible refine Calls.mono (RRowsN.out _ ?_) ?_); (focus (repeat (first | with_reducible exact Below.refl _ _ | with_reducible assumption | with_reducible refine Below.al ?_ _ | with_reducible refine Below.on ?_ _ | with_reducible refine Below.st ?_ (by first | assumption | (simp; done) | (simp; omega)) _ | with_reducible refine Below.drew ?_))); rintro e w23 ⟨u23, rfl, hi23, hb23⟩; obtain ⟨x23, rfl⟩ := Ext.of hb23; have HI23 := Lib.hid hi23; clear hi23; have HC22 := Lib.hid (HI22.out.mono x23.below x23.below.size)) | (go_at_call 20; (with_reducible refine Calls.mono (same_lists _ _ _ _ HC22.out HI23.out) ?_); rintro e w24 ⟨rfl, hb24⟩; obtain ⟨x24, rfl⟩ := Ext.of hb24))
      have BB5 := BB.out
      exact bodyPost_ret (v := .bool true) (by simp [results, Try.results8, go_sem, *]) rfl (⟨rfl, by repeat (first | with_reducible exact Below.refl _ _ | with_reducible assumption | with_reducible refine Below.al ?_ _ | with_reducible refine Below.on ?_ _ | with_reducible refine Below.st ?_ (by first | assumption | (simp; done) | (simp; omega)) _ | with_reducible refine Below.drew ?_)⟩)
    · have hkm : k < n := by omega
      have hkm' : (k : Int) < (n : Int) := by omega
      have hkx : k < sel.length := by rw [HN.out]; exact hkm
      obtain ⟨b1, o1, c1, e1, hb1, hc1⟩ := ints_in HS.out hkx
      injection e1 with e1 e2 e3
      subst e1 e3
      have f1 := (B5.cell (p := ⟨b1, o1 + k, none⟩) hb1).trans (hc1 k hkx)
      have z1 : b1 < x.it.heap.size := Nat.lt_of_lt_of_le hb1 B5.size
      obtain ⟨iv, hiv⟩ : ∃ iv, sel[k]'hkx = iv := ⟨_, rfl⟩
      have GD : sel.getD k 0 = iv := by rw [List.getD_eq_getElem?_getD, List.getElem?_eq_getElem hkx]; exact hiv
      rw [GD] at f1
      have TS := Lib.hid (nearF_succ hkx)
      rw [hiv] at TS
      have pb := pickI_bd iv (n := 12) (by omega)
      obtain ⟨P, hP⟩ : ∃ P, pickI iv 12 = P := ⟨_, rfl⟩
      rw [hP] at TS pb
      have PK := Lib.hid (fun (W : World) => (by have h := pick_any iv 12 (by omega) (by omega) W; rw [hP] at h; exact h : Calls Try.prog 16 #[.int .i64 iv, .int .i64 12] W fun e w' => e = .returned (.int .i64 P) ∧ W = w'))
      obtain ⟨vs, hvs⟩ : ∃ vs, nearF (sel.take k) = vs := ⟨_, rfl⟩
      rw [hvs] at hown TS nl
      have OW := Lib.hid hown
      have HK := Lib.hid (And.intro hk hg0)
      have HXS := hx.size
      have XB := Lib.hid hx
      clear hk hg0 hc1 e2 hiv hown GD hvs B5 hP
      go_wp2_with (first | (go_at_call 16; (with_reducible refine Calls.mono (PK.out _) ?_); rintro e w7 ⟨rfl, rfl⟩) | (at_builtin; go_must (refine wpList_append_lies _ rfl _ _ 23 rfl w4.heap.size 3 i0 _ 1 8 Try.underlying23 hi hz0 hz1 hz2 rfl (by decide) u15 vs.length (vs.flatMap intC) rfl (OW.out.alloc _) ⟨x.it.heap.size, 0, none⟩ 1 1 [.int .i64 (P - 1)] rfl rfl (World.news_of_block (heap_alloc_new x.it _)) (by simp [Value.oneCell']) (by omega) (by unfold maxLen; omega) (by omega) (by simp; omega) (x.it.heap.size + 1) (by simp) ?_); intro gb cap w8 hown hgrow hat hlt4; go_must (have MS := Lib.hid (And.intro hown (show Below w4.heap.size w4 w8 from Below.gr (Below.al XB.out _) OW.out hgrow))); clear hown hgrow hat hlt4))
      go_roundg (gk - 1)
      case measure => have := HK.out; omega
      case rel => exact ⟨k + 1, by have := HK.out; omega, by go_num, ⟨_, MS.out.2⟩, rfl, by rw [TS.out, List.flatMap_append, List.length_append]; have h := MS.out.1; simp only [nl] at h ⊢; exact h⟩
end Go.Proofs.Ytploieofmnlomaa
