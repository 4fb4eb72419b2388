/- ShY: a part of its proof (contracts of the functions that it reaches, and the plain mathematics behind them). -/
import Derived.Test.YtepgkimlmoikmaaGreatShY25
import Derived.Test.YtepgkimlmoikmaaGreatShY36
import Derived.Deep.DeepCutAuto
import Derived.Test.YtepgkimlmoikmaaGreatShY38
set_option linter.unusedVariables false
set_option linter.unusedSimpArgs false
set_option maxHeartbeats 2000000
set_option maxRecDepth 100000
set_option linter.unusedVariables false
set_option linter.unusedSimpArgs false
namespace Go.Proofs.YtepgkimlmoikmaaGreat
open Go.RowKit Go.Proofs.YtepgkimlmoikmaaGreat.Spec Go.Proofs.YtepgkimlmoikmaaGreatW.PrintWords Go.Proofs.YtepgkimlmoikmaaGreatW.PrintLast
open Go.Proofs.YtepgkimlmoikmaaGreatW.PrintMore
attribute [local go_sem ↓] Go.wp_at_zero Go.wp_at_succ
attribute [local go_sem] max2_int min2_int max_two min_two
theorem RowO.mv {w w1 : World} {h g : Nat} {os : List (Int × ByteArray)} (hr : RowO w h os) (hm : Mv g w w1) (hne : h ≠ g) : RowO w1 h os := by
 obtain ⟨cur, h1, h2⟩ := hr
 exact ⟨cur, hm.blk h1 hne, h2⟩
end Go.Proofs.YtepgkimlmoikmaaGreat
set_option linter.unusedVariables false
set_option linter.unusedSimpArgs false
namespace Go.Proofs.YtepgkimlmoikmaaGreat
open Go.RowKit Go.Proofs.YtepgkimlmoikmaaGreat.Spec Go.Proofs.YtepgkimlmoikmaaGreatW.PrintWords Go.Proofs.YtepgkimlmoikmaaGreatW.PrintLast
open Go.Proofs.YtepgkimlmoikmaaGreatW.PrintMore
attribute [local go_sem ↓] Go.wp_at_zero Go.wp_at_succ
attribute [local go_sem] max2_int min2_int max_two min_two
theorem ext_back (a b : ByteArray) : (a ++ b).extract a.size (a ++ b).size = b := by
 apply u_inj
 rw [u_ext, u_app]
 have h1 : (u a).length = a.size := u_size a
 have hz : (a ++ b).size = a.size + b.size := ByteArray.size_append ..
 rw [List.drop_append_of_le_length (by omega), List.drop_of_length_le (by omega), List.nil_append, List.take_of_length_le (by rw [u_size]; omega)]
end Go.Proofs.YtepgkimlmoikmaaGreat
