/- Contracts: Must, Code of a fault; chapter 1's first call. -/
import Derived.Test.YtbnoeoghhbhhcaaDictH
set_option linter.unusedVariables false
set_option linter.unusedSimpArgs false
namespace Go.Proofs.Ytbnoeoghhbhhcaa
open Go.RowKit Go.Proofs.Ytbnoeoghhbhhcaa.Spec Go.Proofs.YtbnoeoghhbhhcaaW.PrintWords Go.Proofs.YtbnoeoghhbhhcaaW.PrintLast
open Go.Proofs.YtbnoeoghhbhhcaaW.PrintMore
theorem ta1_yes (v : Value) (w : World) : (Instr.typeAssert (.iface 33 v) 28 33 false).run Try.prog w = .ok v w := by
  simp [Instr.typeAssert, run_underlying Try.underlying33, go_sem, Result.andThen]
set_option maxHeartbeats 400000 in
set_option maxRecDepth 100000 in
theorem must_some (c a : Int) (w : World) : Calls Try.prog 39 #[.iface 33 (.agg #[.int .i64 c, .int .i64 a])] w fun e w' => e = .returned (.agg #[.int .i64 c, .int .i64 a]) ∧ Below w.heap.size w w' := by
  have ta := ta1_yes
  go_enter Try.func39, Try.ntmps39
  go_wp2
  exact bodyPost_ret (v := .agg #[.int .i64 c, .int .i64 a]) (by simp [results, Try.results39, go_sem]) rfl ⟨rfl, by repeat (first | exact Below.refl _ _ | apply below_alloc | apply below_drew)⟩
set_option maxHeartbeats 400000 in
set_option maxRecDepth 100000 in
theorem code_some (c a : Int) (w : World) : Calls Try.prog 70 #[.iface 33 (.agg #[.int .i64 c, .int .i64 a])] w fun e w' => e = .returned (.int .i64 c) ∧ Below w.heap.size w w' := by
  go_enter Try.func70, Try.ntmps70
  go_wp2_with fail
  refine (of_some c a _).mono ?_
  rintro e w1 ⟨rfl, hb1⟩
  go_wp2
  go_ret
  exact ⟨rfl, by repeat (first | exact hb1 | exact Below.refl _ _ | apply below_alloc | apply below_drew)⟩
theorem method_err247 (x y : Int) (w : World) : (method 247 33 (.agg #[.int .i64 x, .int .i64 y]) "Error").run Try.prog w = .ok (100, .agg #[.int .i64 x, .int .i64 y]) w := by kernel_rfl
theorem seven : faultS 7 7 = ⟨#[115, 117, 109, 32, 97, 116, 32, 55]⟩ := by decide +kernel
theorem name_dict : nameS 5 = ⟨#[100, 105, 99, 116]⟩ := by decide +kernel
set_option maxHeartbeats 1000000 in
set_option maxRecDepth 100000 in
theorem alive_one (w : World) : Calls Try.prog 36 #[] w fun e w' => e = .returned (.bool true) ∧ Below w.heap.size w w' := by
  have he := run_eql_fault
  have hm := method_err247
  go_enter Try.func36, Try.ntmps36
  go_wp2_with fail
  refine (fnew_some 7 7 (by decide) _).mono ?_
  rintro e w1 ⟨rfl, rfl⟩
  go_wp2_with fail
  refine (of_some 7 7 _).mono ?_
  rintro e w2 ⟨rfl, hb2⟩
  have H2 := Aside0.mk hb2
  clear hb2
  go_wp2_with fail
  refine (fnew_none 3 _).mono ?_
  rintro e w3 ⟨rfl, rfl⟩
  go_wp2_with fail
  have h7 := error_small 7 7 (by decide) (w2.alloc (.cells #[.int .i64 7, .int .i64 7] 33))
  rw [seven] at h7
  refine h7.mono ?_
  rintro e w4 ⟨rfl, hb4⟩
  have c0 := pw_cell_below hb4 (a := ⟨w2.heap.size, 0, none⟩) (v := .int .i64 7) (by simp)
  have c1 := pw_cell_below hb4 (a := ⟨w2.heap.size, 1, none⟩) (v := .int .i64 7) (by simp)
  have H4 := Aside0.mk (below_step (below_alloc H2.out _) hb4)
  clear hb4
  go_wp2_with fail
  refine (code_some 7 7 _).mono ?_
  rintro e w5 ⟨rfl, hb5⟩
  go_wp2_with fail
  have h5 := name_calls 5 w5
  rw [name_dict] at h5
  refine h5.mono ?_
  rintro e w6 ⟨rfl, hb6⟩
  go_wp2
  go_ret
  exact ⟨rfl, below_step (below_step H4.out hb5) hb6⟩
end Go.Proofs.Ytbnoeoghhbhhcaa
