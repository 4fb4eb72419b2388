/- Contracts: told, of a fault and of none; what bytes that are loaded are. -/
import Derived.Test.YtbnoeoghhbhhcaaDictF
set_option linter.unusedVariables false
set_option linter.unusedSimpArgs false
namespace Go.Proofs.Ytbnoeoghhbhhcaa
open Go.RowKit Go.Proofs.Ytbnoeoghhbhhcaa.Spec Go.Proofs.YtbnoeoghhbhhcaaW.PrintWords Go.Proofs.YtbnoeoghhbhhcaaW.PrintLast
open Go.Proofs.YtbnoeoghhbhhcaaW.PrintMore
theorem told_none (w : World) : Calls Try.prog 26 #[.nilIface, .int .i64 0, .int .i64 0] w fun e w' => e = .returned (.bool true) ∧ Below w.heap.size w w' := told_any 0 0 0 0 w
theorem told_some (c a : Int) (h : c ≠ 0) (w : World) : Calls Try.prog 26 #[.iface 33 (.agg #[.int .i64 c, .int .i64 a]), .int .i64 c, .int .i64 a] w fun e w' => e = .returned (.bool true) ∧ Below w.heap.size w w' := by
  have := told_any c a c a w
  have e : toldB c a c a = true := by
    unfold toldB
    rw [if_neg h, bne_iff_ne.2 h, beq_self_eq_true, beq_self_eq_true]; rfl
  rw [errV_some h, e] at this
  exact this
theorem load_zero {b : List UInt8} (h : (Spec.load b).2.1 = 0) : (Spec.load b).2.2 = 0 ∧ Spec.bytes (Spec.load b).1 = b ∧ (phrases (Spec.load b).1).1 = 0 := by
  have h1 : (split b).2.1 = 0 := by
    unfold Spec.load at h
    by_cases h1 : (split b).2.1 = 0
    · exact h1
    · rw [if_pos h1] at h; exact absurd h h1
  have h2 : (phrases (split b).1).1 = 0 := by
    unfold Spec.load at h
    rw [if_neg (by omega)] at h
    by_cases h2 : (phrases (split b).1).1 = 0
    · exact h2
    · rw [if_pos h2] at h; exact absurd h h2
  have h3 : Spec.load b = split b := by unfold Spec.load; rw [if_neg (by omega), if_neg (by omega)]
  obtain ⟨q1, q2, _, _⟩ := split_once h1
  rw [h3]
  exact ⟨q2, q1, h2⟩
end Go.Proofs.Ytbnoeoghhbhhcaa
