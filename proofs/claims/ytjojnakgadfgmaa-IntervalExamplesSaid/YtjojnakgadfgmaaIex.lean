/-
  INTERVALEXAMPLES: the walk and the statement. Conditions: none.
-/
import Derived.Test.YtjojnakgadfgmaaOfw
set_option linter.unusedVariables false
set_option linter.unusedSimpArgs false
namespace Go.Proofs.Ytjojnakgadfgmaa
open Go.RowKit Go.ChangeShapes Go.WideShapes Go.ChangeAt
def exCol : Col := ⟨⟨#[105, 100]⟩, 1, 0, true⟩
set_option maxHeartbeats 1000000 in
theorem one_any (w : World) : Calls Try.prog 25 #[] w fun e w' => ∃ q, e = .returned (.agg #[.slice (some ⟨q, 0, none⟩) 1 1, .int .i64 0]) ∧ q < w'.heap.size ∧ ColCells w' q 0 exCol ∧ Below w.heap.size w w' := by
  go_enter Try.func25, Try.ntmps25
  go_wp2
  refine bodyPost_ret (v := .agg #[.slice (some ⟨w.heap.size + 1, 0, none⟩) 1 1, .int .i64 0]) ?hr rfl ⟨w.heap.size + 1, rfl, ?hq, ?hc, ?hb⟩
  case hr => simp (maxDischargeDepth := 5) [results, Try.results25, go_sem, *]
  case hq => simp only [World.size_alloc]; omega
  case hc => exact ⟨by simp [go_sem, exCol], by simp [go_sem, exCol], by simp [go_sem, exCol], by simp [go_sem, exCol]⟩
  case hb => exact (by repeat (first | with_reducible exact Below.refl _ _ | with_reducible assumption | with_reducible refine Below.al ?_ _ | with_reducible refine Below.on ?_ _ | with_reducible refine Below.st ?_ (by first | assumption | (simp; done) | (simp; omega)) _ | with_reducible refine Below.drew ?_))
def ex0 : Nod := ⟨6, 0, ⟨false, 3, ⟨#[]⟩⟩, [], 0, 0⟩
def ex1 : Nod := ⟨3, 0, ⟨false, 9, ⟨#[]⟩⟩, [], 0, 0⟩
def ex2 : Nod := ⟨9, 0, ⟨false, 0, ⟨#[]⟩⟩, [], 0, 1⟩
theorem tl0 : (⟨#[]⟩ : ByteArray).toList = [] := by rw [ByteArray.toList_eq]
theorem tlid : (⟨#[105, 100]⟩ : ByteArray).toList = [105, 100] := by rw [ByteArray.toList_eq]
theorem ex_name : nameF [105, 100] = true := by decide
theorem ex_schema : schemaF [exCol] 0 = 0 := by
  simp [schemaF, colsE, colE, exCol, tlid, ex_name]
theorem ex_v (n : Int) : vchk 1 true false n ⟨#[]⟩ = 0 := by simp [vchk, permF, tl0]
theorem ex_pred : predF [exCol] 0 [ex0, ex1, ex2] = 0 := by
  unfold predF
  rw [if_pos ex_schema]
  simp [nodsE, nodE, ex0, ex1, ex2, exCol, vchk, permF, tl0]
theorem ex_out : outF 1 0 [ex0, ex1, ex2] = ⟨false, true, true, true, ⟨false, 3, ⟨#[]⟩⟩, ⟨false, 9, ⟨#[]⟩⟩⟩ := by
  simp [outF, accF, stepP, ex0, ex1, ex2, leafF, bFrom, bUp, vz, meetF, meetOut, loF, hiF, loC, hiC, checkF, endF, isZ, tl0, cmpV, cmpI]
theorem of_ex (cv nv : Value) (W : World) (hc : ColsAt W W.heap.size cv [exCol]) (hn : NodsAt W W.heap.size nv [ex0, ex1, ex2]) :
    Calls Try.prog 24 #[.agg #[cv, .int .i64 0], nv, .int .i64 0] W fun e w' => e = .returned (.tuple #[.agg #[.bool false, .bool true, .bool true, .bool true, .bool false, .int .i64 3, .string ⟨#[]⟩, .bool false, .int .i64 9, .string ⟨#[]⟩], .int .i64 0]) ∧ Below W.heap.size W w' := by
  have h := of_any cv [exCol] 0 nv [ex0, ex1, ex2] 0 W hc hn ex_pred (by simp) (by intro d hd; simp at hd; rcases hd with rfl | rfl | rfl <;> decide)
  have e : outF ([exCol][0]'(by simp)).ty ((0 : Nat) : Int) [ex0, ex1, ex2] = ⟨false, true, true, true, ⟨false, 3, ⟨#[]⟩⟩, ⟨false, 9, ⟨#[]⟩⟩⟩ := ex_out
  rw [e] at h
  exact h
set_option maxRecDepth 8000 in
set_option maxHeartbeats 2000000 in
theorem iex_walk (w : World) : Calls Try.prog 7 #[] w fun e w' => e = .returned (.bool true) ∧ Below w.heap.size w w' := by
  go_enter Try.func7, Try.ntmps7
  go_upto_region 2 with fail
  refine captureE ?_
  intro y ey
  have NC : ∀ j v, #[.int .i64 6, .int .i64 0, .bool false, .int .i64 3, .string ⟨#[]⟩, .slice none 0 0, .int .i64 0, .int .i64 0, .int .i64 3, .int .i64 0, .bool false, .int .i64 9, .string ⟨#[]⟩, .slice none 0 0, .int .i64 0, .int .i64 0, .int .i64 9, .int .i64 0, .bool false, .int .i64 0, .string ⟨#[]⟩, .slice none 0 0, .int .i64 0, .int .i64 1].toList[j]? = some v → y.it.cell? ⟨w.heap.size, j, none⟩ = some v := by
    intro j v hv
    rw [ey, World.cell?_alloc_at _ _ _ _ rfl]
    simpa using hv
  have yb : Below w.heap.size w y.it := by rw [ey]; exact (by repeat (first | with_reducible exact Below.refl _ _ | with_reducible assumption | with_reducible refine Below.al ?_ _ | with_reducible refine Below.on ?_ _ | with_reducible refine Below.st ?_ (by first | assumption | (simp; done) | (simp; omega)) _ | with_reducible refine Below.drew ?_))
  have y0 : w.heap.size < y.it.heap.size := by rw [ey]; simp
  clear ey
  have HVN : ∀ (W : World) (B : Nat), ValsAt W B (.slice none 0 0) [] := fun W B => ⟨by simp, .inl ⟨rfl, none, 0, rfl⟩⟩
  have HNS : NodsAt y.it y.it.heap.size (.slice (some ⟨w.heap.size, 0, none⟩) 3 3) [ex0, ex1, ex2] := by
    refine ⟨by simp, .inr ⟨w.heap.size, 0, 3, rfl, by simp, y0, ?_⟩⟩
    intro j hj
    rcases j with _ | _ | _ | j
    · exact ⟨.slice none 0 0, NC 0 _ rfl, NC 1 _ rfl, NC 2 _ rfl, NC 3 _ rfl, NC 4 _ rfl, NC 5 _ rfl, NC 6 _ rfl, NC 7 _ rfl, HVN _ _⟩
    · exact ⟨.slice none 0 0, NC 8 _ rfl, NC 9 _ rfl, NC 10 _ rfl, NC 11 _ rfl, NC 12 _ rfl, NC 13 _ rfl, NC 14 _ rfl, NC 15 _ rfl, HVN _ _⟩
    · exact ⟨.slice none 0 0, NC 16 _ rfl, NC 17 _ rfl, NC 18 _ rfl, NC 19 _ rfl, NC 20 _ rfl, NC 21 _ rfl, NC 22 _ rfl, NC 23 _ rfl, HVN _ _⟩
    · simp at hj; omega
  have HNS' := Lib.hid HNS
  clear NC HVN HNS
  go_wp2_with (first | (go_at_call 25; refine (one_any _).mono ?_; rintro e w1 ⟨q, rfl, hq, hcq, hb1⟩; have hN1 := HNS'.out.mono hb1 hb1.size; have hC1 : ColsAt w1 w1.heap.size (.slice (some ⟨q, 0, none⟩) 1 1) [exCol] := ⟨by simp, .inr ⟨q, 0, 1, rfl, by simp, hq, fun j hj => by (obtain rfl : j = 0 := by (simp at hj; omega)); exact hcq⟩⟩; have OF := of_ex _ _ w1 hC1 hN1; obtain ⟨x1, rfl⟩ := Ext.of hb1; have OF' := Lib.hid OF; clear OF hN1 hC1 hcq) | (go_at_call 24; refine OF'.out.mono ?_; rintro e w2 ⟨rfl, hb2⟩; obtain ⟨x2, rfl⟩ := Ext.of hb2))
  exact bodyPost_ret (v := .bool true) (by simp [results, Try.results7, go_sem, *]) rfl (⟨rfl, by repeat (first | with_reducible exact Below.refl _ _ | with_reducible assumption | with_reducible refine Below.al ?_ _ | with_reducible refine Below.on ?_ _ | with_reducible refine Below.st ?_ (by first | assumption | (simp; done) | (simp; omega)) _ | with_reducible refine Below.drew ?_)⟩)
theorem own : ownKnob Try.prog.godebug = none := by kernel_rfl
theorem laid : laidOutB Try.prog = true := by kernel_rfl
set_option maxRecDepth 100000 in
theorem intervalExamples_lifted (os : Os) (started : os.Started) (H : Type) (enc : TypeId × Value → H) :
    ReturnsInHanded {} Try.checked os 7 .any (Rows.intervalExamplesSpec.pre6 enc Try.prog Try.f7 Rows.intervalExamplesRow.domain false) (Rows.intervalExamplesSpec.post enc Try.prog Try.f7 false true false false) := by
  refine lifted_of_walk (C := Try.checked) (tb := 4) own started (by kernel_rfl) Try.func7
    (ChangeSpec.witness6 (enc := enc) (C := Try.checked) false ⟨#[], #[], []⟩ 8 (by kernel_rfl) (by kernel_rfl) (by kernel_rfl) (by kernel_rfl))
    laid (params_ok (by kernel_rfl)) (by kernel_rfl) Try.underlying4 rfl
    (fun ds hds => by match ds, hds with | [], _ => exact ⟨rfl, rfl, rfl⟩) ?_
  intro W base args ds ps hval0 hA0
  have hval : ∀ (j : Nat) t v, Try.f7.params[j]? = some t → args[j]? = some v → Value.okWide Try.prog W .any base t v := hval0
  have hA : DataW.TrodAll enc Try.prog W 0 (fun _ => true) true Try.f7.params.toList args.toList ds ps := hA0
  rw [Try.params7] at hA hval
  obtain ⟨hargs, rfl, rfl⟩ := trodAll_nil hA
  obtain rfl : args = #[] := by cases args; simp_all
  exact iex_walk W

theorem intervalExamples_holds : Rows.IntervalExamplesSaid :=
  OpenClaim.holds_of_wide 7 Try.f7 rfl rfl rfl rfl rfl rfl rfl ⟨rfl, rfl, rfl, rfl, rfl⟩ rfl rfl rfl rfl rfl (by kernel_rfl) Try.func7 (by kernel_rfl)
    (of_decide_eq_true (by kernel_rfl)) (by unfold Func.isWrapper; first | (rw [if_pos (by decide +kernel)]; kernel_rfl) | (rw [if_neg (by decide +kernel)]; exact ⟨rfl, rfl⟩))
    (fun os started H enc _ => intervalExamples_lifted os started H enc)
#print axioms intervalExamples_holds
end Go.Proofs.Ytjojnakgadfgmaa
