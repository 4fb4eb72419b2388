/- ShY: a part of its proof (contracts of the functions that it reaches, and the plain mathematics behind them). -/
import Derived.Test.YtepgkimlmoikmaaGreatShY36
import Derived.Test.YtepgkimlmoikmaaGreatShY38
set_option linter.unusedVariables false
set_option linter.unusedSimpArgs false
set_option maxHeartbeats 2000000
set_option maxRecDepth 100000
set_option linter.unusedVariables false
set_option linter.unusedSimpArgs false
namespace Go.Proofs.YtepgkimlmoikmaaGreat
open Go.RowKit Go.Proofs.YtepgkimlmoikmaaGreat.Spec Go.Proofs.YtepgkimlmoikmaaGreatW.PrintWords Go.Proofs.YtepgkimlmoikmaaGreatW.PrintLast
open Go.Proofs.YtepgkimlmoikmaaGreatW.PrintMore
attribute [local go_sem ↓] Go.wp_at_zero Go.wp_at_succ
attribute [local go_sem] max2_int min2_int max_two min_two
theorem ext_step (B : ByteArray) (i j : Nat) (h : i ≤ j) (hj : j ≤ B.size) : B.extract 0 i ++ B.extract i j = B.extract 0 j := by
 apply u_inj
 rw [u_app, u_ext, u_ext, u_ext]
 simp only [List.drop_zero, Nat.sub_zero]
 rw [← List.take_append_drop i ((u B).take j), List.take_take, Nat.min_eq_left h, List.drop_take]
theorem ext_none (B : ByteArray) : B.extract 0 0 = ⟨#[]⟩ := by
 apply u_inj
 rw [u_ext]
 rfl
theorem full_at (l : List ByteArray) (B : ByteArray) : (full l B).at_ ≤ B.size := by
 unfold full
 split
 ·exact Nat.zero_le _
 ·split
  ·exact Nat.zero_le _
  ·split
   ·exact Nat.zero_le _
   ·exact (scan_app l _ _ B ⟨#[]⟩ B.size 17 ⟨#[]⟩ (by omega) (by omega)).1
end Go.Proofs.YtepgkimlmoikmaaGreat
