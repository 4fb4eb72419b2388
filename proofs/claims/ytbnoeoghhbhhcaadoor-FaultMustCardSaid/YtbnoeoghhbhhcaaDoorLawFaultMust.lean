/- FaultMust: of a fault one value is what two values tell. -/
import Derived.Test.YtbnoeoghhbhhcaaDoorFaultB
set_option linter.unusedVariables false
set_option linter.unusedSimpArgs false
namespace Go.Proofs.YtbnoeoghhbhhcaaDoor
open Go.RowKit Go.Proofs.YtbnoeoghhbhhcaaDoorW.PrintWords Go.Proofs.YtbnoeoghhbhhcaaDoorW.PrintLast
open Go.Proofs.YtbnoeoghhbhhcaaDoorW.PrintMore
theorem method_errD (x y : Int) (w : World) : (method 172 28 (.agg #[.int .i64 x, .int .i64 y]) "Error").run Tryd.prog w = .ok (12, .agg #[.int .i64 x, .int .i64 y]) w := by kernel_rfl
set_option maxHeartbeats 2000000 in
set_option maxRecDepth 100000 in
theorem must_law (c a : Int) (w : World) (hwc : (Lit.int .i64 c).wf = true) (hwa : -9223372036854775808 ≤ a ∧ a ≤ 9223372036854775807) (ht : Tab w) : Calls Tryd.prog 4 #[.int .i64 c, .int .i64 a] w fun e w' => e = .returned (.bool true) ∧ Below w.heap.size w w' := by
  clear hwc
  by_cases hc : c = 0
  · subst hc
    clear ht
    go_enter Tryd.func4, Tryd.ntmps4
    go_wp2_with fail
    refine (alive_one _).mono ?_
    rintro e w1 ⟨rfl, hb1⟩
    go_wp2
    go_ret
    exact ⟨rfl, hb1⟩
  · have he := run_eql_fault
    have hm := method_errD
    have hc0 : (c == (0 : Int)) = false := beq_eq_false_iff_ne.2 hc
    have HA := Aside0.mk hc
    have HW := Aside0.mk hwa
    have HT1 := Aside0.mk (fun W (hb : Below w.heap.size w W) => tab_below ht hb)
    clear hc hwa ht
    go_enter Tryd.func4, Tryd.ntmps4
    go_wp2_with fail
    refine (alive_one _).mono ?_
    rintro e w1 ⟨rfl, hb1⟩
    have H1 := Aside0.mk hb1
    clear hb1
    go_wp2_with fail
    refine (fnew_some c a HA.out _).mono ?_
    rintro e w2 ⟨rfl, rfl⟩
    go_wp2_with fail
    refine (of_some c a _).mono ?_
    rintro e w3 ⟨rfl, hb3⟩
    have H3 := Aside0.mk (below_step H1.out hb3)
    clear hb3
    go_wp2_with fail
    refine (try_some c a _).mono ?_
    rintro e w5 ⟨rfl, hb5⟩
    have c0 := pw_cell_below hb5 (a := ⟨w3.heap.size, 0, none⟩) (v := .int .i64 c) (by simp)
    have c1 := pw_cell_below hb5 (a := ⟨w3.heap.size, 1, none⟩) (v := .int .i64 a) (by simp)
    have d0 := pw_cell_below (below_alloc (Below.refl w5.heap.size w5) (.cells #[.int .i64 c, .int .i64 a] 28)) c0
    have d1 := pw_cell_below (below_alloc (Below.refl w5.heap.size w5) (.cells #[.int .i64 c, .int .i64 a] 28)) c1
    have H5 := Aside0.mk (below_step (below_alloc H3.out _) hb5)
    clear hb5
    go_wp2_with fail
    have h6 := below_drew (below_alloc H5.out (.cells #[.int .i64 c, .int .i64 a] 28))
    go_region_held3 (fun w' => w'.cell? ⟨w3.heap.size, 0, none⟩ = some (.int .i64 c) ∧ w'.cell? ⟨w3.heap.size, 1, none⟩ = some (.int .i64 a) ∧ w'.cell? ⟨w5.heap.size, 0, none⟩ = some (.int .i64 c) ∧ w'.cell? ⟨w5.heap.size, 1, none⟩ = some (.int .i64 a) ∧ Below w.heap.size w w')
      (refine ⟨?_, ?_, ?_, ?_, ?_⟩ <;> first | assumption | (simp; done) | (simp [d0, d1]; done) | (simp [*]; done) | exact pw_cell_below hb (by simp [d0, d1]) | exact pw_cell_below hb (by simp [*]) | exact below_step h6 hb | exact below_step (by simp [*]) hb)
      (first | (go_at_call 12; refine (error_any c a HW.out.1 HW.out.2 _ (HT1.out _ (by first | assumption | simp [*]))).mono ?_; rintro e wa ⟨rfl, hb⟩) | (go_at_call 13; refine (code_some c a _).mono ?_; rintro e wa ⟨rfl, hb⟩))
    go_wp2
    go_ret
    exact ⟨rfl, by first | assumption | (simp [*]; done) | exact below_step (by simp [*]) hb⟩
end Go.Proofs.YtbnoeoghhbhhcaaDoor
