/- The one-value assertion at nil: what its run is. (FaultTells needs it.) -/
import Derived.Test.YtbnoeoghhbhhcaaDoorFaultB
set_option linter.unusedVariables false
set_option linter.unusedSimpArgs false
namespace Go.Proofs.YtbnoeoghhbhhcaaDoor
open Go.RowKit Go.Proofs.YtbnoeoghhbhhcaaDoorW.PrintWords Go.Proofs.YtbnoeoghhbhhcaaDoorW.PrintLast
open Go.Proofs.YtbnoeoghhbhhcaaDoorW.PrintMore
theorem elemTae (w : World) : (elemOf 15).run Tryd.prog w = .ok 58 w := by
  simp [elemOf, run_underlying Tryd.underlying15, go_sem, Result.andThen]
theorem ta1_nil (w : World) : (Instr.typeAssert .nilIface 25 28 false).run Tryd.prog w = .halt (.panic (.iface 15 (.pointer (some ⟨w.heap.size, 0, none⟩)))) (w.alloc (.cells #[typeHandle Tryd.prog 25, Value.pointer none, typeHandle Tryd.prog 28, strVal ""] 58)) := by
  simp [Instr.typeAssert, run_underlying Tryd.underlying28, go_sem, Result.andThen, elemTae]
set_option maxHeartbeats 400000 in
set_option maxRecDepth 100000 in
theorem must_none (w : World) : Calls Tryd.prog 15 #[.nilIface] w fun e w' => ∃ p o o', e = .panicked [{ v := .iface 15 (.pointer (some p)), recovered := false }] ∧ w' = (w.alloc o).alloc o' := by
  have ta := ta1_nil
  go_enter Tryd.func15, Tryd.ntmps15
  go_wp2
  first | exact ⟨_, _, _, _, rfl, rfl⟩ | exact ⟨rfl, _, _, _, rfl, rfl⟩ | (simp [bodyPost])
set_option maxHeartbeats 1000000 in
set_option maxRecDepth 100000 in
theorem try_none (w : World) : Calls Tryd.prog 8 #[.nilIface] w fun e w' => e = .returned (.tuple #[.agg #[.int .i64 0, .int .i64 0], .bool true]) ∧ Below w.heap.size w w' := by
  have hmf : ∀ (fn : Fn) (first cap : Array Value) (w : World), (Instr.makeFunc fn first cap).run Tryd.prog w = .ok (.func fn first cap) w := fun _ _ _ _ => rfl
  go_enter_defers Tryd.func8, Tryd.ntmps8
  go_wp2_with (go_at_call 15; refine (must_none _).mono ?_; rintro e w1 ⟨p, o, o', rfl, rfl⟩)
  refine leaves_cons (f := 14) (args := #[.pointer (some ⟨w.heap.size + 1, 0, none⟩)]) (by simp) (by simp [go_sem]) ?_
  refine (catch_panicking ⟨w.heap.size + 1, 0, none⟩ false 15 _ [] _ ?_ ?_).mono ?_
  · simp [go_sem]
  · simp [go_sem]
  rintro e u' w'' ⟨rfl, rfl, rfl⟩
  simp [Leaves, settle, results, Tryd.results8, go_sem]
  exact below_alloc (below_alloc (below_alloc (below_alloc (Below.refl _ _) _) _) _) _
end Go.Proofs.YtbnoeoghhbhhcaaDoor
