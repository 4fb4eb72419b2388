/- ShU: a part of its proof (contracts of the functions that it reaches, and the plain mathematics behind them). -/
import Derived.Test.YtepgkimlmoikmaaGreatShU50
import Derived.Test.YtepgkimlmoikmaaGreatShU45
import Derived.Test.YtepgkimlmoikmaaGreatShU41
set_option linter.unusedVariables false
set_option linter.unusedSimpArgs false
set_option maxHeartbeats 2000000
set_option maxRecDepth 100000
set_option linter.unusedVariables false
set_option linter.unusedSimpArgs false
namespace Go.Proofs.YtepgkimlmoikmaaGreat
open Go.RowKit Go.Proofs.YtepgkimlmoikmaaGreat.Spec Go.Proofs.YtepgkimlmoikmaaGreatW.PrintWords Go.Proofs.YtepgkimlmoikmaaGreatW.PrintLast
open Go.Proofs.YtepgkimlmoikmaaGreatW.PrintMore
attribute [local go_sem ↓] Go.wp_at_zero Go.wp_at_succ
attribute [local go_sem] max2_int min2_int max_two min_two
theorem nil_y {b : ByteArray} (h : ¬ 1 ≤ b.size) : b.toList.isEmpty = true := by
 have : u b = [] := List.length_eq_zero_iff.1 (by rw [u_size]; omega)
 have hb : b = ⟨#[]⟩ := u_inj this
 rw [hb]
 decide +kernel
theorem nil_y2 {b : ByteArray} (h : ¬ 1 ≤ b.size) : b.toList = [] := List.isEmpty_iff.1 (nil_y h)
theorem nil_n2 {b : ByteArray} (h : 1 ≤ b.size) : ¬ b.toList = [] := fun e => by
 have := not_nil h
 rw [e] at this
 cases this
theorem rconf22_calls (p q k wd : Int) (w : World) : Calls Tryz.prog 27 #[.agg #[.int .i64 p, .int .i64 q, .int .i64 k, .int .i64 wd]] w fun e w' => e = .returned (.bool (cfgB p q k wd)) ∧ Below w.heap.size w w' := by
 refine (Leaf.lexiphaneref1_ConfigRight.calls p q k wd _ w ?_)
 unfold Leaf.lexiphaneref1_ConfigRight.f cfgB
 repeat' split
 all_goals (first | (congr 1; rw [decide_eq_decide]; omega) | (congr 1; symm; rw [decide_eq_false_iff_not]; omega))
end Go.Proofs.YtepgkimlmoikmaaGreat
